/- Each function's call comes to what its model answers; what is handed in stays as it was. -/
import Derived.Test.YthbcjjhlebhghaaM
import Derived.Test.YthbcjjhlebhghaaProg
namespace Go.Proofs.Ythbcjjhlebhghaa.Walk
open Go
theorem Try_mixed : Try.prog.follows .mixedOrders = true := by kernel_rfl
/- cautery/cauterylaw21.small -/
theorem cauterylaw21_small_walk (p0_0 : Int) (p0_1 : ByteArray) (p0_2 : ByteArray) (p0_3 : Int) (p0_4 : Int) (p0_5 : Vector Int 32) (p0_6 : List Int) (Ap0_6 : Option Addr) (np0_6 : Nat) (w : World) (hp0_6 : Rd w 1 Ap0_6 p0_6.length np0_6 (ints .u8 p0_6)) (r0 : Bool) (hm : cauterylaw21_small.f p0_0 p0_1 p0_2 p0_3 p0_4 p0_5 p0_6 = some r0) :
    Calls Try.prog 6 #[.agg ([Value.int .i64 p0_0] ++ ([Value.string p0_1] ++ ([Value.string p0_2] ++ ([Value.int .i64 p0_3] ++ ([Value.int .i64 p0_4] ++ (ints .u8 p0_5.toList ++ ([Value.slice Ap0_6 p0_6.length np0_6]))))))).toArray] w fun e w' => e = .returned (.bool r0) ∧ Fr [] w w' := by
  have F0 := Fr.refl [] w
  unfold cauterylaw21_small.f at hm
  refine W.enter (args := [.agg ([Value.int .i64 p0_0] ++ ([Value.string p0_1] ++ ([Value.string p0_2] ++ ([Value.int .i64 p0_3] ++ ([Value.int .i64 p0_4] ++ (ints .u8 p0_5.toList ++ ([Value.slice Ap0_6 p0_6.length np0_6]))))))).toArray]) Try.func6 rfl (n := 19) rfl rfl ?_
  refine W.seq ?_
  refine W.region ?_
  refine WL.op rfl rfl rfl (ex_box' (cs := [Value.int .i64 p0_0] ++ ([Value.string p0_1] ++ ([Value.string p0_2] ++ ([Value.int .i64 p0_3] ++ ([Value.int .i64 p0_4] ++ (ints .u8 p0_5.toList ++ ([Value.slice Ap0_6 p0_6.length np0_6]))))))) rfl rfl) ?_
  rintro _ w1 ⟨b1, rfl, N1⟩
  have h1 := N1.at_
  have s1 := Src.new [] (Ge.one N1.ge)
  have h2 := (hp0_6).fr N1.fr trivial
  have F1 := Fr.step F0 N1.fr trivial
  refine ⟨_, rfl, ?_⟩
  refine WL.batch 1 [1] (E' := [(1, .pointer (some ⟨b1, 0, none⟩))]) (by kernel_rfl) ?_
  refine WL.nil ?_
  refine W.seq ?_
  refine W.region ?_
  refine WL.batch 1 [1, 3] (E' := [(1, .pointer (some ⟨b1, 0, none⟩)), (3, .pointer (some ⟨b1, 1, none⟩))]) (by kernel_rfl) ?_
  refine WL.value (.string p0_1) rfl rfl rfl (ex_loadOne Try.underlying9 rfl rfl h1 (Lens.skip rfl (Lens.head _ ([Value.string p0_1]) _) rfl)) rfl ?_
  refine WL.batch 3 [1, 7] (E' := [(1, .pointer (some ⟨b1, 0, none⟩)), (7, .bool (decide ((p0_1.size : Int) ≤ (20 : Int))))]) (by kernel_rfl) ?_
  rcases of_cond hm with ⟨c1, hm⟩ | ⟨c1, hm⟩
  · rw [c1]
    refine WL.batch 1 [1, 7, 8] (E' := [(1, .pointer (some ⟨b1, 0, none⟩)), (7, .bool true), (8, .pointer (some ⟨b1, 2, none⟩))]) (by kernel_rfl) ?_
    refine WL.value (.string p0_2) rfl rfl rfl (ex_loadOne Try.underlying9 rfl rfl h1 (Lens.skip rfl (Lens.skip rfl (Lens.head _ ([Value.string p0_2]) _) rfl) rfl)) rfl ?_
    refine WL.batch 4 [1, 13] (E' := [(1, .pointer (some ⟨b1, 0, none⟩)), (13, .bool (decide ((p0_2.size : Int) ≤ (20 : Int))))]) (by kernel_rfl) ?_
    rcases of_cond hm with ⟨c2, hm⟩ | ⟨c2, hm⟩
    · rw [c2]
      refine WL.batch 1 [13, 14] (E' := [(13, .bool true), (14, .pointer (some ⟨b1, 37, none⟩))]) (by kernel_rfl) ?_
      refine WL.value (.slice Ap0_6 p0_6.length np0_6) rfl rfl rfl (ex_loadOne Try.underlying23 rfl rfl h1 (Lens.skip rfl (Lens.skip rfl (Lens.skip rfl (Lens.skip rfl (Lens.skip rfl (Lens.skip (ivl _ _) (Lens.all _ ([Value.slice Ap0_6 p0_6.length np0_6])) rfl) rfl) rfl) rfl) rfl) rfl)) rfl ?_
      refine WL.batch 4 [2] (E' := [(2, .bool (decide ((p0_6.length : Int) ≤ (300 : Int))))]) (by kernel_rfl) ?_
      refine WL.nil ?_
      refine W.ret ?_
      obtain rfl := Option.some.inj hm
      exact ⟨_, ⟨_, _, rfl, rfl, rfl⟩, ⟨rfl, F1⟩⟩
    · rw [c2]
      refine WL.batch 6 [2] (E' := [(2, .bool false)]) (by kernel_rfl) ?_
      refine WL.nil ?_
      refine W.ret ?_
      obtain rfl := Option.some.inj hm
      exact ⟨_, ⟨_, _, rfl, rfl, rfl⟩, ⟨rfl, F1⟩⟩
  · rw [c1]
    refine WL.batch 12 [2] (E' := [(2, .bool false)]) (by kernel_rfl) ?_
    refine WL.nil ?_
    refine W.ret ?_
    obtain rfl := Option.some.inj hm
    exact ⟨_, ⟨_, _, rfl, rfl, rfl⟩, ⟨rfl, F1⟩⟩

/- cautery/catalog.isSign -/
theorem catalog_isSign_walk (p0 : Int)  (w : World) (r0 : Bool) (hm : catalog_isSign.f p0 = some r0) :
    Calls Try.prog 32 #[.int .i32 p0] w fun e w' => e = .returned (.bool r0) ∧ Fr [] w w' := by
  have F0 := Fr.refl [] w
  unfold catalog_isSign.f at hm
  refine W.enter (args := [.int .i32 p0]) Try.func32 rfl (n := 21) rfl rfl ?_
  refine W.seq ?_
  refine W.region ?_
  refine WL.batch 1 [0] (E' := [(0, .int .i32 p0)]) (by kernel_rfl) ?_
  refine WL.nil ?_
  refine W.seq ?_
  refine W.region ?_
  refine WL.batch 3 [0, 5] (E' := [(0, .int .i32 p0), (5, .bool (decide (p0 ≥ (97 : Int))))]) (by kernel_rfl) ?_
  rcases of_cond hm with ⟨c1, hm⟩ | ⟨c1, hm⟩
  · rw [c1]
    refine WL.batch 4 [0, 9] (E' := [(0, .int .i32 p0), (9, .bool (decide (p0 ≤ (122 : Int))))]) (by kernel_rfl) ?_
    rcases of_cond hm with ⟨c2, hm⟩ | ⟨c2, hm⟩
    · rw [c2]
      refine WL.batch 12 [2] (E' := [(2, .bool true)]) (by kernel_rfl) ?_
      refine WL.nil ?_
      refine W.ret ?_
      obtain rfl := Option.some.inj hm
      exact ⟨_, ⟨_, _, rfl, rfl, rfl⟩, ⟨rfl, F0⟩⟩
    · rw [c2]
      refine WL.batch 3 [0, 9, 12] (E' := [(0, .int .i32 p0), (9, .bool false), (12, .bool (decide (p0 ≥ (48 : Int))))]) (by kernel_rfl) ?_
      rcases of_cond hm with ⟨c3, hm⟩ | ⟨c3, hm⟩
      · rw [c3]
        refine WL.batch 5 [0, 17] (E' := [(0, .int .i32 p0), (17, .bool (decide (p0 ≤ (57 : Int))))]) (by kernel_rfl) ?_
        rcases of_cond hm with ⟨c4, hm⟩ | ⟨c4, hm⟩
        · rw [c4]
          refine WL.batch 4 [2] (E' := [(2, .bool true)]) (by kernel_rfl) ?_
          refine WL.nil ?_
          refine W.ret ?_
          obtain rfl := Option.some.inj hm
          exact ⟨_, ⟨_, _, rfl, rfl, rfl⟩, ⟨rfl, F0⟩⟩
        · rw [c4]
          refine WL.batch 4 [2] (E' := [(2, .bool (p0 == (45 : Int)))]) (by kernel_rfl) ?_
          refine WL.nil ?_
          refine W.ret ?_
          obtain rfl := Option.some.inj hm
          exact ⟨_, ⟨_, _, rfl, rfl, rfl⟩, ⟨rfl, F0⟩⟩
      · rw [c3]
        refine WL.batch 9 [2] (E' := [(2, .bool (p0 == (45 : Int)))]) (by kernel_rfl) ?_
        refine WL.nil ?_
        refine W.ret ?_
        obtain rfl := Option.some.inj hm
        exact ⟨_, ⟨_, _, rfl, rfl, rfl⟩, ⟨rfl, F0⟩⟩
  · rw [c1]
    refine WL.batch 7 [0, 9, 12] (E' := [(0, .int .i32 p0), (9, .bool false), (12, .bool (decide (p0 ≥ (48 : Int))))]) (by kernel_rfl) ?_
    rcases of_cond hm with ⟨c5, hm⟩ | ⟨c5, hm⟩
    · rw [c5]
      refine WL.batch 5 [0, 17] (E' := [(0, .int .i32 p0), (17, .bool (decide (p0 ≤ (57 : Int))))]) (by kernel_rfl) ?_
      rcases of_cond hm with ⟨c6, hm⟩ | ⟨c6, hm⟩
      · rw [c6]
        refine WL.batch 4 [2] (E' := [(2, .bool true)]) (by kernel_rfl) ?_
        refine WL.nil ?_
        refine W.ret ?_
        obtain rfl := Option.some.inj hm
        exact ⟨_, ⟨_, _, rfl, rfl, rfl⟩, ⟨rfl, F0⟩⟩
      · rw [c6]
        refine WL.batch 4 [2] (E' := [(2, .bool (p0 == (45 : Int)))]) (by kernel_rfl) ?_
        refine WL.nil ?_
        refine W.ret ?_
        obtain rfl := Option.some.inj hm
        exact ⟨_, ⟨_, _, rfl, rfl, rfl⟩, ⟨rfl, F0⟩⟩
    · rw [c5]
      refine WL.batch 9 [2] (E' := [(2, .bool (p0 == (45 : Int)))]) (by kernel_rfl) ?_
      refine WL.nil ?_
      refine W.ret ?_
      obtain rfl := Option.some.inj hm
      exact ⟨_, ⟨_, _, rfl, rfl, rfl⟩, ⟨rfl, F0⟩⟩

/- cautery/catalog.IsName -/
theorem catalog_IsName_walk (k : Nat) (p0 : ByteArray)  (w : World) (r0 : Bool) (hm : catalog_IsName.f k p0 = some r0) :
    Calls Try.prog 20 #[.string p0] w fun e w' => e = .returned (.bool r0) ∧ Fr [] w w' := by
  have F0 := Fr.refl [] w
  unfold catalog_IsName.f at hm
  refine W.enter (args := [.string p0]) Try.func20 rfl (n := 20) rfl rfl ?_
  refine W.seq ?_
  refine W.region ?_
  refine WL.batch 1 [0] (E' := [(0, .string p0)]) (by kernel_rfl) ?_
  refine WL.nil ?_
  refine W.seq ?_
  refine W.seq ?_
  refine W.region ?_
  refine WL.batch 1 [0, 5] (E' := [(0, .string p0), (5, .string p0)]) (by kernel_rfl) ?_
  refine WL.op rfl rfl rfl (ex_rangeStr Try.underlying9 rfl) ?_
  rintro _ w1 ⟨b1, rfl, N1⟩
  have h1 := N1.at_
  have s1 := Src.new [] (Ge.one N1.ge)
  have F1 := Fr.step F0 N1.fr trivial
  refine ⟨_, rfl, ?_⟩
  refine WL.nil ?_
  obtain ⟨ex1, hm1, hm2⟩ := of_bind hm
  refine W.joinN (fun E w2 => ∃ (i1 : Nat), Env.sub E [(0, .string p0)] ∧ w2.heap[b1]? = some (.stringIter p0 i1) ∧ Fr [] w w2 ∧ Ex.go i1 = ex1) ?_ (fun rest1 => ?_)
  · rintro _ w2 ⟨i1, hE, h2, F2, rfl⟩
    replace hm := hm2
    clear hm1
    refine W.sub ?_ hE
    refine W.seq ?_
    refine W.region ?_
    refine WL.batch 3 [0, 15] (E' := [(0, .string p0), (15, .bool (!(p0.toList == (⟨#[]⟩ : ByteArray).toList)))]) (by kernel_rfl) ?_
    rcases of_cond hm with ⟨c1, hm⟩ | ⟨c1, hm⟩
    · rw [c1]
      refine WL.batch 5 [2] (E' := [(2, .bool (decide ((p0.size : Int) ≤ (12 : Int))))]) (by kernel_rfl) ?_
      refine WL.nil ?_
      refine W.ret ?_
      obtain rfl := Option.some.inj hm
      exact ⟨_, ⟨_, _, rfl, rfl, rfl⟩, ⟨rfl, F2⟩⟩
    · rw [c1]
      refine WL.batch 5 [2] (E' := [(2, .bool false)]) (by kernel_rfl) ?_
      refine WL.nil ?_
      refine W.ret ?_
      obtain rfl := Option.some.inj hm
      exact ⟨_, ⟨_, _, rfl, rfl, rfl⟩, ⟨rfl, F2⟩⟩
  · replace hm := hm1
    clear hm1
    refine W.block ?_
    refine W.loop (fun j1 E w3 => ∃ (i2 : Nat), Env.sub E [(0, .string p0), (6, .pointer (some ⟨b1, 0, none⟩))] ∧ w3.heap[b1]? = some (.stringIter p0 i2) ∧ Fr [] w w3 ∧ catalog_IsName.l0 p0 j1 i2 = some ex1) ?_ k ?_ ?_
    · rintro _ _ ⟨_, _, _, _, hz⟩
      exact absurd hz (by simp [catalog_IsName.l0])
    · exact ⟨0, ⟨rfl, rfl, trivial⟩, h1, F1, hm⟩
    · rintro j1 _ w3 ⟨i2, hE, h3, F3, hm⟩
      rw [catalog_IsName.l0] at hm
      refine W.sub ?_ hE
      refine W.seq ?_
      refine W.region ?_
      rcases of_cond hm with ⟨c2, hm⟩ | ⟨c2, hm⟩
      · refine WL.op rfl rfl rfl (ex_nextT rfl h3 c2) ?_
        rintro _ w4 ⟨rfl, F4, h4⟩
        have F5 := Fr.step F3 F4 ⟨(In0.src s1 (Nat.le_refl _) trivial), trivial⟩
        refine ⟨_, rfl, ?_⟩
        refine WL.batch 1 [0, 6, 7, 8] (E' := [(0, .string p0), (6, .pointer (some ⟨b1, 0, none⟩)), (7, .tuple #[.bool true, .int .i64 (i2 : Int), .int .i32 ((Utf8.decode p0 i2).1 : Int)]), (8, .bool true)]) (by kernel_rfl) ?_
        refine WL.nil ?_
        refine W.seq ?_
        refine W.condT _ rfl rfl ?_
        refine W.skip ?_
        refine W.block ?_
        refine W.seq ?_
        refine W.region ?_
        refine WL.batch 2 [0, 4, 6] (E' := [(0, .string p0), (4, .int .i32 ((Utf8.decode p0 i2).1 : Int)), (6, .pointer (some ⟨b1, 0, none⟩))]) (by kernel_rfl) ?_
        obtain ⟨x1, q1, hm⟩ := of_let hm
        rw [q1]
        refine WL.nil ?_
        refine W.seq ?_
        refine W.region ?_
        refine WL.batch 1 [0, 6, 10] (E' := [(0, .string p0), (6, .pointer (some ⟨b1, 0, none⟩)), (10, .int .i32 x1)]) (by kernel_rfl) ?_
        obtain ⟨y1, q2, hm⟩ := of_bind hm
        refine WL.call rfl rfl rfl (ex_callI (args := [.int .i32 x1]) rfl rfl rfl Try.call32) (catalog_isSign_walk x1  _   y1 q2) ?_
        rintro _ w5 ⟨rfl, F6⟩
        have h5 := Fr.at F6 h4 (ApL.not (x := some b1) (S := []) trivial _ rfl)
        have F7 := Fr.step F5 F6 trivial
        refine ⟨_, _, rfl, rfl, ?_⟩
        refine WL.batch 1 [0, 6, 12] (E' := [(0, .string p0), (6, .pointer (some ⟨b1, 0, none⟩)), (12, .bool (!y1))]) (by kernel_rfl) ?_
        refine WL.nil ?_
        rcases of_cond hm with ⟨c3, hm⟩ | ⟨c3, hm⟩
        · refine W.condT _ rfl c3 ?_
          refine W.seq ?_
          refine W.region ?_
          refine WL.batch 1 [2] (E' := [(2, .bool false)]) (by kernel_rfl) ?_
          refine WL.nil ?_
          refine W.ret ?_
          obtain rfl := Option.some.inj hm
          replace hm := hm2
          obtain rfl := Option.some.inj hm
          exact ⟨_, ⟨_, _, rfl, rfl, rfl⟩, ⟨rfl, F7⟩⟩
        · refine W.condF _ rfl c3 ?_
          refine W.skip ?_
          exact ⟨(i2 + (Utf8.decode p0 i2).2), ⟨rfl, rfl, trivial⟩, h5, F7, hm⟩
      · refine WL.value (.tuple #[.bool false]) rfl rfl rfl (ex_nextF rfl h3 c2) rfl ?_
        refine WL.batch 1 [0, 6, 7, 8] (E' := [(0, .string p0), (6, .pointer (some ⟨b1, 0, none⟩)), (7, .tuple #[.bool false]), (8, .bool false)]) (by kernel_rfl) ?_
        refine WL.nil ?_
        refine W.seq ?_
        refine W.condF _ rfl rfl ?_
        refine W.exit ?_
        exact rest1 _ _ ⟨i2, ⟨rfl, trivial⟩, h3, F3, (Option.some.inj hm)⟩

/- cautery/sha.New -/
theorem sha_New_walk   (w : World) (r0 : Vector Int 8) (r1 : Vector Int 64) (r2 : Int) (r3 : Int) (hm : sha_New.f  = some (r0, r1, r2, r3)) :
    Calls Try.prog 37 #[] w fun e w' => ∃ (b0 : Nat), e = .returned (.pointer (some ⟨b0, 0, none⟩)) ∧ Fr [] w w' ∧ w'.heap[b0]? = some (.cells (ints .u32 r0.toList ++ (ints .u8 r1.toList ++ ([Value.int .i64 r2] ++ ([Value.int .u64 r3])))).toArray 76 (0, 0)) ∧ Src (some b0) w.heap.size [] := by
  have F0 := Fr.refl [] w
  unfold sha_New.f at hm
  refine W.enter (args := []) Try.func37 rfl (n := 4) rfl rfl ?_
  refine W.seq ?_
  refine W.region ?_
  refine WL.batch 1 [] (E' := []) (by kernel_rfl) ?_
  refine WL.nil ?_
  refine W.seq ?_
  refine W.region ?_
  refine WL.batch 1 [1] (E' := [(1, .agg (ints .u32 (#v[1779033703, 3144134277, 1013904242, 2773480762, 1359893119, 2600822924, 528734635, 1541459225] : Vector Int 8).toList).toArray)]) (by kernel_rfl) ?_
  refine WL.value (.agg (ints .u32 (#v[1779033703, 3144134277, 1013904242, 2773480762, 1359893119, 2600822924, 528734635, 1541459225] : Vector Int 8).toList ++ (ints .u8 (Vector.replicate 64 (0 : Int)).toList ++ ([Value.int .i64 0] ++ ([Value.int .u64 0])))).toArray) rfl rfl rfl (ex_build (z := .agg (ints .u32 (Vector.replicate 8 (0 : Int)).toList ++ (ints .u8 (Vector.replicate 64 (0 : Int)).toList ++ ([Value.int .i64 0] ++ ([Value.int .u64 0])))).toArray) (cs := ints .u32 (Vector.replicate 8 (0 : Int)).toList ++ (ints .u8 (Vector.replicate 64 (0 : Int)).toList ++ ([Value.int .i64 0] ++ ([Value.int .u64 0])))) (vs := [(0, .agg (ints .u32 (#v[1779033703, 3144134277, 1013904242, 2773480762, 1359893119, 2600822924, 528734635, 1541459225] : Vector Int 8).toList).toArray)]) (pl := #[(0, 8), (8, 64), (72, 1), (73, 1)]) Try.underlying76 rfl (fun _ => by kernel_rfl) rfl (fun _ => by kernel_rfl) (Fill.cons rfl rfl (Lens.head _ (ints .u32 (#v[1779033703, 3144134277, 1013904242, 2773480762, 1359893119, 2600822924, 528734635, 1541459225] : Vector Int 8).toList) _) (ivl _ _) (ivl _ _) (Fill.nil _))) rfl ?_
  refine WL.op rfl rfl rfl (ex_box' (cs := ints .u32 (#v[1779033703, 3144134277, 1013904242, 2773480762, 1359893119, 2600822924, 528734635, 1541459225] : Vector Int 8).toList ++ (ints .u8 (Vector.replicate 64 (0 : Int)).toList ++ ([Value.int .i64 0] ++ ([Value.int .u64 0])))) rfl rfl) ?_
  rintro _ w1 ⟨b1, rfl, N1⟩
  have h1 := N1.at_
  have s1 := Src.new [] (Ge.one N1.ge)
  have F1 := Fr.step F0 N1.fr trivial
  refine ⟨_, rfl, ?_⟩
  refine WL.batch 1 [0] (E' := [(0, .pointer (some ⟨b1, 0, none⟩))]) (by kernel_rfl) ?_
  refine WL.nil ?_
  refine W.ret ?_
  obtain ⟨q0a, q0b⟩ := Prod.mk.inj (Option.some.inj hm)
  obtain ⟨q1a, q1b⟩ := Prod.mk.inj (q0b)
  obtain ⟨q2a, q2b⟩ := Prod.mk.inj (q1b)
  subst q0a
  subst q1a
  subst q2a
  subst q2b
  exact ⟨_, ⟨_, _, rfl, rfl, rfl⟩, ⟨b1, rfl, F1, h1, (Src.trans' s1 (Nat.le_refl _) trivial)⟩⟩

/- cautery/sha.load -/
theorem sha_load_walk (k : Nat) (p0 : Vector Int 64)  (w : World) (r0 : Vector Int 16) (hm : sha_load.f k p0 = some r0) :
    Calls Try.prog 48 #[.agg (ints .u8 p0.toList).toArray] w fun e w' => e = .returned (.agg (ints .u32 r0.toList).toArray) ∧ Fr [] w w' := by
  have F0 := Fr.refl [] w
  unfold sha_load.f at hm
  refine W.enter (args := [.agg (ints .u8 p0.toList).toArray]) Try.func48 rfl (n := 24) rfl rfl ?_
  refine W.seq ?_
  refine W.region ?_
  refine WL.op rfl rfl rfl (ex_box' (cs := ints .u8 p0.toList) rfl rfl) ?_
  rintro _ w1 ⟨b1, rfl, N1⟩
  have h1 := N1.at_
  have s1 := Src.new [] (Ge.one N1.ge)
  have F1 := Fr.step F0 N1.fr trivial
  refine ⟨_, rfl, ?_⟩
  refine WL.op rfl rfl rfl (ex_alloc' (z := .agg (ints .u32 (Vector.replicate 16 (0 : Int)).toList).toArray) (cs := ints .u32 (Vector.replicate 16 (0 : Int)).toList) (fun _ => by kernel_rfl) (by kernel_rfl)) ?_
  rintro _ w2 ⟨b2, rfl, N2⟩
  have h2 := N2.at_
  have s2 := Src.new [] (Ge.one N2.ge)
  have h3 := Fr.at N2.fr h1 (ApL.not (x := some b1) (S := []) trivial _ rfl)
  have F2 := Fr.step F1 N2.fr trivial
  refine ⟨_, rfl, ?_⟩
  refine WL.nil ?_
  refine W.seq ?_
  refine W.region ?_
  refine WL.op rfl rfl rfl (ex_alloc' (z := .agg (ints .u32 (Vector.replicate 16 (0 : Int)).toList).toArray) (cs := ints .u32 (Vector.replicate 16 (0 : Int)).toList) (fun _ => by kernel_rfl) (by kernel_rfl)) ?_
  rintro _ w3 ⟨b3, rfl, N3⟩
  have h4 := N3.at_
  have s3 := Src.new [] (Ge.one N3.ge)
  have h5 := Fr.at N3.fr h3 (ApL.not (x := some b1) (S := []) trivial _ rfl)
  have h6 := Fr.at N3.fr h2 (ApL.not (x := some b2) (S := []) trivial _ rfl)
  have F3 := Fr.step F2 N3.fr trivial
  refine ⟨_, rfl, ?_⟩
  refine WL.nil ?_
  refine W.seq ?_
  refine W.seq ?_
  refine W.region ?_
  refine WL.value (.agg (ints .u8 p0.toList).toArray) rfl rfl rfl (ex_loadAgg Try.underlying74 rfl Try.sizeOf74 (ivl _ _) rfl h5 (Lens.all _ (ints .u8 p0.toList))) rfl ?_
  refine WL.batch 1 [2, 3, 6, 7] (E' := [(2, .pointer (some ⟨b2, 0, none⟩)), (3, .pointer (some ⟨b3, 0, none⟩)), (6, .agg (ints .u8 p0.toList).toArray), (7, .int .i64 0)]) (by kernel_rfl) ?_
  refine WL.nil ?_
  obtain ⟨ex1, hm1, hm2⟩ := of_bind hm
  refine W.joinN (fun E w4 => ∃ (a1 : Vector Int 16), Env.sub E [(2, .pointer (some ⟨b2, 0, none⟩)), (3, .pointer (some ⟨b3, 0, none⟩))] ∧ w4.heap[b1]? = some (.cells (ints .u8 p0.toList).toArray 74 (0, 0)) ∧ w4.heap[b2]? = some (.cells (ints .u32 (Vector.replicate 16 (0 : Int)).toList).toArray 79 (0, 0)) ∧ w4.heap[b3]? = some (.cells (ints .u32 a1.toList).toArray 79 (0, 0)) ∧ Fr [] w w4 ∧ a1 = ex1) ?_ (fun rest1 => ?_)
  · rintro _ w4 ⟨a1, hE, h7, h8, h9, F4, rfl⟩
    replace hm := hm2
    clear hm1
    refine W.sub ?_ hE
    refine W.seq ?_
    refine W.region ?_
    refine WL.value (.agg (ints .u32 a1.toList).toArray) rfl rfl rfl (ex_loadAgg Try.underlying79 rfl Try.sizeOf79 (ivl _ _) rfl h9 (Lens.all _ (ints .u32 a1.toList))) rfl ?_
    refine WL.opS rfl rfl rfl (ex_storeObj rfl rfl Try.sizeOf79 h8 (Lens.all _ (ints .u32 a1.toList)) (ivl _ _) (ivl _ _) rfl (ints_one _ _)) ?_
    rintro w5 ⟨F5, h10⟩
    have h11 := Fr.at F5 h7 (ApL.not (x := some b1) (S := [some b2]) ⟨(Ap.symm (Src.ap' s2 (Lt.one (at_lt h1)) trivial)), trivial⟩ _ rfl)
    have h12 := Fr.at F5 h9 (ApL.not (x := some b3) (S := [some b2]) ⟨(Src.ap' s3 (Lt.one (at_lt h2)) trivial), trivial⟩ _ rfl)
    have F6 := Fr.step F4 F5 ⟨(In0.src s2 F1.size trivial), trivial⟩
    refine ⟨_, rfl, ?_⟩
    refine WL.nil ?_
    refine W.ret ?_
    obtain rfl := Option.some.inj hm
    exact ⟨_, ⟨_, _, _, rfl, rfl, (loadVar_aggN Try.underlying79 rfl Try.sizeOf79 (ivl _ _) h10 (Lens.all _ (ints .u32 a1.toList))), rfl⟩, ⟨rfl, F6⟩⟩
  · replace hm := hm1
    clear hm1
    refine W.block ?_
    refine W.loop (fun j1 E w6 => ∃ (x1 : Int) (a2 : Vector Int 16), Env.sub E [(2, .pointer (some ⟨b2, 0, none⟩)), (3, .pointer (some ⟨b3, 0, none⟩)), (6, .agg (ints .u8 p0.toList).toArray), (7, .int .i64 x1)] ∧ w6.heap[b1]? = some (.cells (ints .u8 p0.toList).toArray 74 (0, 0)) ∧ w6.heap[b2]? = some (.cells (ints .u32 (Vector.replicate 16 (0 : Int)).toList).toArray 79 (0, 0)) ∧ w6.heap[b3]? = some (.cells (ints .u32 a2.toList).toArray 79 (0, 0)) ∧ Fr [] w w6 ∧ sha_load.l0 p0 j1 x1 a2 = some ex1) ?_ k ?_ ?_
    · rintro _ _ ⟨_, _, _, _, _, _, _, hz⟩
      exact absurd hz (by simp [sha_load.l0])
    · exact ⟨0, (Vector.replicate 16 (0 : Int)), ⟨rfl, rfl, rfl, rfl, trivial⟩, h5, h6, h4, F3, hm⟩
    · rintro j1 _ w6 ⟨x1, a2, hE, h13, h14, h15, F7, hm⟩
      rw [sha_load.l0] at hm
      refine W.sub ?_ hE
      refine W.seq ?_
      refine W.region ?_
      refine WL.batch 1 [2, 3, 6, 7, 8] (E' := [(2, .pointer (some ⟨b2, 0, none⟩)), (3, .pointer (some ⟨b3, 0, none⟩)), (6, .agg (ints .u8 p0.toList).toArray), (7, .int .i64 x1), (8, .bool (decide (x1 < (64 : Int))))]) (by kernel_rfl) ?_
      refine WL.nil ?_
      refine W.seq ?_
      rcases of_cond hm with ⟨c1, hm⟩ | ⟨c1, hm⟩
      · refine W.condT _ rfl c1 ?_
        refine W.skip ?_
        refine W.seq ?_
        refine W.block ?_
        refine W.seq ?_
        refine W.region ?_
        refine WL.batch 1 [2, 3, 6, 7, 9] (E' := [(2, .pointer (some ⟨b2, 0, none⟩)), (3, .pointer (some ⟨b3, 0, none⟩)), (6, .agg (ints .u8 p0.toList).toArray), (7, .int .i64 x1), (9, .int .i64 x1)]) (by kernel_rfl) ?_
        obtain ⟨⟨c2, c3⟩, hm⟩ := of_guard hm
        refine WL.value (.int .u8 (vget p0 x1)) rfl rfl rfl (ex_indexI Try.underlying74 Try.underlying5 Try.sizeOf5 rfl rfl c2 c3) rfl ?_
        refine WL.batch 2 [2, 3, 4, 5, 6, 7] (E' := [(2, .pointer (some ⟨b2, 0, none⟩)), (3, .pointer (some ⟨b3, 0, none⟩)), (4, .int .i64 x1), (5, .int .u8 (vget p0 x1)), (6, .agg (ints .u8 p0.toList).toArray), (7, .int .i64 x1)]) (by kernel_rfl) ?_
        obtain ⟨x2, q1, hm⟩ := of_let hm
        rw [q1]
        refine WL.nil ?_
        refine W.region ?_
        refine WL.batch 4 [2, 3, 5, 6, 7, 12, 14] (E' := [(2, .pointer (some ⟨b2, 0, none⟩)), (3, .pointer (some ⟨b3, 0, none⟩)), (5, .int .u8 x2), (6, .agg (ints .u8 p0.toList).toArray), (7, .int .i64 x1), (12, .int .i64 (wquo .i64 x1 4)), (14, .int .i64 (wquo .i64 x1 4))]) (by kernel_rfl) ?_
        obtain ⟨x3, q2, hm⟩ := of_let hm
        rw [q2]
        obtain ⟨⟨c4, c5⟩, hm⟩ := of_guard hm
        refine WL.value (.pointer (some ⟨b3, 0 + Int.toNat x3 * 1, none⟩)) rfl rfl rfl (ex_indexAddrArr Try.underlying79 Try.sizeOf54 rfl rfl c4 c5) rfl ?_
        refine WL.value (.int .u32 (vget a2 x3)) rfl rfl rfl (ex_loadOne Try.underlying54 rfl rfl h15 (Lens.comp (Lens.all _ (ints .u32 (vset a2 x3 (vget a2 x3)).toList)) (Lens.vec c4 c5 (vget a2 x3)) rfl)) rfl ?_
        refine WL.batch 4 [2, 3, 6, 7, 12, 20] (E' := [(2, .pointer (some ⟨b2, 0, none⟩)), (3, .pointer (some ⟨b3, 0, none⟩)), (6, .agg (ints .u8 p0.toList).toArray), (7, .int .i64 x1), (12, .int .i64 x3), (20, .int .u32 (wor .u32 (wshl .u32 (vget a2 x3) 8) (IntKind.wrap .u32 x2)))]) (by kernel_rfl) ?_
        obtain ⟨x4, q3, hm⟩ := of_let hm
        rw [q3]
        refine WL.value (.pointer (some ⟨b3, 0 + Int.toNat x3 * 1, none⟩)) rfl rfl rfl (ex_indexAddrArr Try.underlying79 Try.sizeOf54 rfl rfl c4 c5) rfl ?_
        refine WL.opS rfl rfl rfl (ex_storeObj rfl rfl Try.sizeOf54 h15 (Lens.comp (Lens.all _ (ints .u32 (vset a2 x3 x4).toList)) (Lens.vec c4 c5 x4) rfl) rfl rfl rfl (one_sing rfl)) ?_
        rintro w7 ⟨F8, h16⟩
        have h17 := Fr.at F8 h13 (ApL.not (x := some b1) (S := [some b3]) ⟨(Ap.symm (Src.ap' s3 (Lt.one (at_lt h3)) trivial)), trivial⟩ _ rfl)
        have h18 := Fr.at F8 h14 (ApL.not (x := some b2) (S := [some b3]) ⟨(Ap.symm (Src.ap' s3 (Lt.one (at_lt h2)) trivial)), trivial⟩ _ rfl)
        have F9 := Fr.step F7 F8 ⟨(In0.src s3 F2.size trivial), trivial⟩
        refine ⟨_, rfl, ?_⟩
        obtain ⟨a3, q4, hm⟩ := of_let hm
        rw [q4] at h16
        refine WL.nil ?_
        refine W.region ?_
        refine WL.batch 2 [2, 3, 6, 7] (E' := [(2, .pointer (some ⟨b2, 0, none⟩)), (3, .pointer (some ⟨b3, 0, none⟩)), (6, .agg (ints .u8 p0.toList).toArray), (7, .int .i64 (wadd .i64 x1 1))]) (by kernel_rfl) ?_
        obtain ⟨x5, q5, hm⟩ := of_let hm
        rw [q5]
        refine WL.nil ?_
        exact ⟨x5, a3, ⟨rfl, rfl, rfl, rfl, trivial⟩, h17, h18, h16, F9, hm⟩
      · refine W.condF _ rfl c1 ?_
        refine W.exit ?_
        exact rest1 _ _ ⟨a2, ⟨rfl, rfl, trivial⟩, h13, h14, h15, F7, (Option.some.inj hm)⟩

/- cautery/sha.steps -/
theorem sha_steps_walk   (w : World) (r0 : Vector Int 64) (hm : sha_steps.f  = some r0) :
    Calls Try.prog 49 #[] w fun e w' => e = .returned (.agg (ints .u32 r0.toList).toArray) ∧ Fr [] w w' := by
  have F0 := Fr.refl [] w
  unfold sha_steps.f at hm
  refine W.enter (args := []) Try.func49 rfl (n := 2) rfl rfl ?_
  refine W.seq ?_
  refine W.region ?_
  refine WL.op rfl rfl rfl (ex_alloc' (z := .agg (ints .u32 (Vector.replicate 64 (0 : Int)).toList).toArray) (cs := ints .u32 (Vector.replicate 64 (0 : Int)).toList) (fun _ => by kernel_rfl) (by kernel_rfl)) ?_
  rintro _ w1 ⟨b1, rfl, N1⟩
  have h1 := N1.at_
  have s1 := Src.new [] (Ge.one N1.ge)
  have F1 := Fr.step F0 N1.fr trivial
  refine ⟨_, rfl, ?_⟩
  refine WL.nil ?_
  refine W.seq ?_
  refine W.region ?_
  refine WL.batch 1 [0, 1] (E' := [(0, .pointer (some ⟨b1, 0, none⟩)), (1, .agg (ints .u32 (#v[1116352408, 1899447441, 3049323471, 3921009573, 961987163, 1508970993, 2453635748, 2870763221, 3624381080, 310598401, 607225278, 1426881987, 1925078388, 2162078206, 2614888103, 3248222580, 3835390401, 4022224774, 264347078, 604807628, 770255983, 1249150122, 1555081692, 1996064986, 2554220882, 2821834349, 2952996808, 3210313671, 3336571891, 3584528711, 113926993, 338241895, 666307205, 773529912, 1294757372, 1396182291, 1695183700, 1986661051, 2177026350, 2456956037, 2730485921, 2820302411, 3259730800, 3345764771, 3516065817, 3600352804, 4094571909, 275423344, 430227734, 506948616, 659060556, 883997877, 958139571, 1322822218, 1537002063, 1747873779, 1955562222, 2024104815, 2227730452, 2361852424, 2428436474, 2756734187, 3204031479, 3329325298] : Vector Int 64).toList).toArray)]) (by kernel_rfl) ?_
  refine WL.opS rfl rfl rfl (ex_storeObj rfl rfl Try.sizeOf81 h1 (Lens.all _ (ints .u32 (#v[1116352408, 1899447441, 3049323471, 3921009573, 961987163, 1508970993, 2453635748, 2870763221, 3624381080, 310598401, 607225278, 1426881987, 1925078388, 2162078206, 2614888103, 3248222580, 3835390401, 4022224774, 264347078, 604807628, 770255983, 1249150122, 1555081692, 1996064986, 2554220882, 2821834349, 2952996808, 3210313671, 3336571891, 3584528711, 113926993, 338241895, 666307205, 773529912, 1294757372, 1396182291, 1695183700, 1986661051, 2177026350, 2456956037, 2730485921, 2820302411, 3259730800, 3345764771, 3516065817, 3600352804, 4094571909, 275423344, 430227734, 506948616, 659060556, 883997877, 958139571, 1322822218, 1537002063, 1747873779, 1955562222, 2024104815, 2227730452, 2361852424, 2428436474, 2756734187, 3204031479, 3329325298] : Vector Int 64).toList)) (ivl _ _) (ivl _ _) rfl (ints_one _ _)) ?_
  rintro w2 ⟨F2, h2⟩
  have F3 := Fr.step F1 F2 ⟨(In0.src s1 (Nat.le_refl _) trivial), trivial⟩
  refine ⟨_, rfl, ?_⟩
  obtain ⟨a1, q1, hm⟩ := of_let hm
  rw [q1] at h2
  refine WL.nil ?_
  refine W.ret ?_
  obtain rfl := Option.some.inj hm
  exact ⟨_, ⟨_, _, _, rfl, rfl, (loadVar_aggN Try.underlying81 rfl Try.sizeOf81 (ivl _ _) h2 (Lens.all _ (ints .u32 a1.toList))), rfl⟩, ⟨rfl, F3⟩⟩

/- math/bits.RotateLeft32 -/
theorem bits_RotateLeft32_walk (p0 : Int) (p1 : Int)  (w : World) (r0 : Int) (hm : bits_RotateLeft32.f p0 p1 = some r0) :
    Calls Try.prog 50 #[.int .u32 p0, .int .i64 p1] w fun e w' => e = .returned (.int .u32 r0) ∧ Fr [] w w' := by
  have F0 := Fr.refl [] w
  unfold bits_RotateLeft32.f at hm
  refine W.enter (args := [.int .u32 p0, .int .i64 p1]) Try.func50 rfl (n := 17) rfl rfl ?_
  refine W.seq ?_
  refine W.region ?_
  refine WL.batch 1 [0, 1] (E' := [(0, .int .u32 p0), (1, .int .i64 p1)]) (by kernel_rfl) ?_
  refine WL.nil ?_
  refine W.seq ?_
  refine W.region ?_
  refine WL.batch 4 [0, 5] (E' := [(0, .int .u32 p0), (5, .int .u64 (wand .u64 (IntKind.wrap .u64 p1) 31))]) (by kernel_rfl) ?_
  obtain ⟨x1, q1, hm⟩ := of_let hm
  rw [q1]
  refine WL.nil ?_
  refine W.seq ?_
  refine W.region ?_
  refine WL.batch 2 [0, 5, 9, 10] (E' := [(0, .int .u32 p0), (5, .int .u64 x1), (9, .int .u32 p0), (10, .int .u64 x1)]) (by kernel_rfl) ?_
  obtain ⟨c1, hm⟩ := of_guard hm
  refine WL.value (.int .u32 (wshl .u32 p0 x1)) rfl rfl rfl (ex_shl rfl rfl c1) rfl ?_
  refine WL.batch 3 [11, 12, 14] (E' := [(11, .int .u32 (wshl .u32 p0 x1)), (12, .int .u32 p0), (14, .int .u64 (wsub .u64 32 x1))]) (by kernel_rfl) ?_
  obtain ⟨x2, q2, hm⟩ := of_let hm
  rw [q2]
  obtain ⟨x3, q3, hm⟩ := of_let hm
  rw [q3]
  obtain ⟨c2, hm⟩ := of_guard hm
  refine WL.value (.int .u32 (wshr .u32 p0 x3)) rfl rfl rfl (ex_shr rfl rfl c2) rfl ?_
  refine WL.batch 2 [4] (E' := [(4, .int .u32 (wor .u32 x2 (wshr .u32 p0 x3)))]) (by kernel_rfl) ?_
  obtain ⟨x4, q4, hm⟩ := of_let hm
  rw [q4]
  refine WL.nil ?_
  refine W.ret ?_
  obtain rfl := Option.some.inj hm
  exact ⟨_, ⟨_, _, rfl, rfl, rfl⟩, ⟨rfl, F0⟩⟩

/- (*cautery/sha.wheel).next -/
theorem sha_wheel_next_walk (p0o : Vector Int 16) (p1 : Int) (bp0 : Nat) (w : World) (hp0 : w.heap[bp0]? = some (.cells (ints .u32 p0o.toList).toArray 79 (0, 0))) (r0 : Int) (r1 : Vector Int 16) (hm : sha_wheel_next.f p0o p1 = some (r0, r1)) :
    Calls Try.prog 51 #[.pointer (some ⟨bp0, 0, none⟩), .int .i64 p1] w fun e w' => e = .returned (.int .u32 r0) ∧ Fr [some bp0] w w' ∧ w'.heap[bp0]? = some (.cells (ints .u32 r1.toList).toArray 79 (0, 0)) := by
  have F0 := Fr.refl [some bp0] w
  unfold sha_wheel_next.f at hm
  refine W.enter (args := [.pointer (some ⟨bp0, 0, none⟩), .int .i64 p1]) Try.func51 rfl (n := 68) rfl rfl ?_
  refine W.seq ?_
  refine W.region ?_
  refine WL.batch 1 [0, 1] (E' := [(0, .pointer (some ⟨bp0, 0, none⟩)), (1, .int .i64 p1)]) (by kernel_rfl) ?_
  refine WL.nil ?_
  refine W.seq ?_
  refine W.region ?_
  refine WL.batch 3 [0, 1, 5] (E' := [(0, .pointer (some ⟨bp0, 0, none⟩)), (1, .int .i64 p1), (5, .int .i64 (wrem .i64 p1 16))]) (by kernel_rfl) ?_
  obtain ⟨x1, q1, hm⟩ := of_let hm
  rw [q1]
  refine WL.nil ?_
  refine W.seq ?_
  refine W.seq ?_
  refine W.region ?_
  refine WL.batch 2 [0, 1, 5, 13] (E' := [(0, .pointer (some ⟨bp0, 0, none⟩)), (1, .int .i64 p1), (5, .int .i64 x1), (13, .bool (decide (p1 ≥ (16 : Int))))]) (by kernel_rfl) ?_
  refine WL.nil ?_
  rcases of_cond hm with ⟨c1, hm⟩ | ⟨c1, hm⟩
  · refine W.condT _ rfl c1 ?_
    refine W.seq ?_
    refine W.regionDw (N := 16) Try_mixed rfl ?_
    intro w1 F1
    have h1 := Fr.at F1 hp0 (ApL.not (x := some bp0) (S := []) trivial _ rfl)
    have F2 := Fr.step F0 F1 trivial
    refine WD.batch (f' := 6) [0, 1, 2, 3, 4, 7, 8, 9, 10, 11] #[true, true, true, true, true, false, false, true, true, true, true, true, false, false, false, false] [0, 1, 5, 17, 18, 24, 25] rfl (E' := [(0, .pointer (some ⟨bp0, 0, none⟩)), (1, .int .i64 p1), (5, .int .i64 x1), (17, .int .i64 (wrem .i64 (wadd .i64 p1 1) 16)), (18, .pointer (some ⟨bp0, 0, none⟩)), (24, .int .i64 (wrem .i64 (wadd .i64 p1 14) 16)), (25, .pointer (some ⟨bp0, 0, none⟩))]) (by kernel_rfl) ?_
    obtain ⟨x2, q2, hm⟩ := of_let hm
    rw [q2]
    obtain ⟨x3, q3, hm⟩ := of_let hm
    rw [q3]
    obtain ⟨⟨c2, c3⟩, hm⟩ := of_guard hm
    refine WD.valU 5 (.pointer (some ⟨bp0, 0 + Int.toNat x3 * 1, none⟩)) rfl (by kernel_rfl) rfl rfl (fun _ => (ex_indexAddrArr Try.underlying79 Try.sizeOf54 rfl rfl c2 c3)) rfl ?_
    refine WD.load 6 [] [14, 15] (.int .u32 (vget p0o x3)) rfl (by kernel_rfl) rfl rfl rfl (ex_loadOne Try.underlying54 rfl rfl h1 (Lens.comp (Lens.all _ (ints .u32 (vset p0o x3 (vget p0o x3)).toList)) (Lens.vec c2 c3 (vget p0o x3)) rfl)) ?_
    refine WD.batch (f' := 3) [14] #[true, true, true, true, true, true, true, true, true, true, true, true, false, false, true, false] [0, 1, 5, 6, 24, 25] rfl (E' := [(0, .pointer (some ⟨bp0, 0, none⟩)), (1, .int .i64 p1), (5, .int .i64 x1), (6, .int .u32 (vget p0o x3)), (24, .int .i64 x2), (25, .pointer (some ⟨bp0, 0, none⟩))]) (by kernel_rfl) ?_
    obtain ⟨x4, q4, hm⟩ := of_let hm
    rw [q4]
    obtain ⟨⟨c4, c5⟩, hm⟩ := of_guard hm
    refine WD.valU 12 (.pointer (some ⟨bp0, 0 + Int.toNat x2 * 1, none⟩)) rfl (by kernel_rfl) rfl rfl (fun _ => (ex_indexAddrArr Try.underlying79 Try.sizeOf54 rfl rfl c4 c5)) rfl ?_
    refine WD.load 13 [] [15] (.int .u32 (vget p0o x2)) rfl (by kernel_rfl) rfl rfl rfl (ex_loadOne Try.underlying54 rfl rfl h1 (Lens.comp (Lens.all _ (ints .u32 (vset p0o x2 (vget p0o x2)).toList)) (Lens.vec c4 c5 (vget p0o x2)) rfl)) ?_
    refine WD.batch (f' := 0) [15] #[true, true, true, true, true, true, true, true, true, true, true, true, true, true, true, true] [0, 1, 5, 6, 7] rfl (E' := [(0, .pointer (some ⟨bp0, 0, none⟩)), (1, .int .i64 p1), (5, .int .i64 x1), (6, .int .u32 x4), (7, .int .u32 (vget p0o x2))]) (by kernel_rfl) ?_
    obtain ⟨x5, q5, hm⟩ := of_let hm
    rw [q5]
    refine WD.end_ (by kernel_rfl) ?_
    refine W.seq ?_
    refine W.region ?_
    refine WL.batch 1 [0, 1, 5, 6, 7, 28] (E' := [(0, .pointer (some ⟨bp0, 0, none⟩)), (1, .int .i64 p1), (5, .int .i64 x1), (6, .int .u32 x4), (7, .int .u32 x5), (28, .int .u32 x4)]) (by kernel_rfl) ?_
    obtain ⟨x6, q6, hm⟩ := of_bind hm
    refine WL.call rfl rfl rfl (ex_callI (args := [.int .u32 x4, .int .i64 (-7)]) rfl rfl rfl Try.call50) (bits_RotateLeft32_walk x4 (-7)  _   x6 q6) ?_
    rintro _ w2 ⟨rfl, F3⟩
    have h2 := Fr.at F3 h1 (ApL.not (x := some bp0) (S := []) trivial _ rfl)
    have F4 := Fr.step F2 F3 trivial
    refine ⟨_, _, rfl, rfl, ?_⟩
    refine WL.batch 1 [0, 1, 5, 6, 7, 29, 30] (E' := [(0, .pointer (some ⟨bp0, 0, none⟩)), (1, .int .i64 p1), (5, .int .i64 x1), (6, .int .u32 x4), (7, .int .u32 x5), (29, .int .u32 x6), (30, .int .u32 x4)]) (by kernel_rfl) ?_
    obtain ⟨x7, q7, hm⟩ := of_bind hm
    refine WL.call rfl rfl rfl (ex_callI (args := [.int .u32 x4, .int .i64 (-18)]) rfl rfl rfl Try.call50) (bits_RotateLeft32_walk x4 (-18)  _   x7 q7) ?_
    rintro _ w3 ⟨rfl, F5⟩
    have h3 := Fr.at F5 h2 (ApL.not (x := some bp0) (S := []) trivial _ rfl)
    have F6 := Fr.step F4 F5 trivial
    refine ⟨_, _, rfl, rfl, ?_⟩
    refine WL.batch 5 [0, 1, 5, 7, 8] (E' := [(0, .pointer (some ⟨bp0, 0, none⟩)), (1, .int .i64 p1), (5, .int .i64 x1), (7, .int .u32 x5), (8, .int .u32 (wxor .u32 (wxor .u32 x6 x7) (wshr .u32 x4 3)))]) (by kernel_rfl) ?_
    obtain ⟨x8, q8, hm⟩ := of_let hm
    rw [q8]
    refine WL.nil ?_
    refine W.seq ?_
    refine W.region ?_
    refine WL.batch 1 [0, 1, 5, 7, 8, 36] (E' := [(0, .pointer (some ⟨bp0, 0, none⟩)), (1, .int .i64 p1), (5, .int .i64 x1), (7, .int .u32 x5), (8, .int .u32 x8), (36, .int .u32 x5)]) (by kernel_rfl) ?_
    obtain ⟨x9, q9, hm⟩ := of_bind hm
    refine WL.call rfl rfl rfl (ex_callI (args := [.int .u32 x5, .int .i64 (-17)]) rfl rfl rfl Try.call50) (bits_RotateLeft32_walk x5 (-17)  _   x9 q9) ?_
    rintro _ w4 ⟨rfl, F7⟩
    have h4 := Fr.at F7 h3 (ApL.not (x := some bp0) (S := []) trivial _ rfl)
    have F8 := Fr.step F6 F7 trivial
    refine ⟨_, _, rfl, rfl, ?_⟩
    refine WL.batch 1 [0, 1, 5, 7, 8, 37, 38] (E' := [(0, .pointer (some ⟨bp0, 0, none⟩)), (1, .int .i64 p1), (5, .int .i64 x1), (7, .int .u32 x5), (8, .int .u32 x8), (37, .int .u32 x9), (38, .int .u32 x5)]) (by kernel_rfl) ?_
    obtain ⟨x10, q10, hm⟩ := of_bind hm
    refine WL.call rfl rfl rfl (ex_callI (args := [.int .u32 x5, .int .i64 (-19)]) rfl rfl rfl Try.call50) (bits_RotateLeft32_walk x5 (-19)  _   x10 q10) ?_
    rintro _ w5 ⟨rfl, F9⟩
    have h5 := Fr.at F9 h4 (ApL.not (x := some bp0) (S := []) trivial _ rfl)
    have F10 := Fr.step F8 F9 trivial
    refine ⟨_, _, rfl, rfl, ?_⟩
    refine WL.batch 5 [0, 1, 5, 8, 9] (E' := [(0, .pointer (some ⟨bp0, 0, none⟩)), (1, .int .i64 p1), (5, .int .i64 x1), (8, .int .u32 x8), (9, .int .u32 (wxor .u32 (wxor .u32 x9 x10) (wshr .u32 x5 10)))]) (by kernel_rfl) ?_
    obtain ⟨x11, q11, hm⟩ := of_let hm
    rw [q11]
    refine WL.nil ?_
    refine W.regionDw (N := 20) Try_mixed rfl ?_
    intro w6 F11
    have h6 := Fr.at F11 h5 (ApL.not (x := some bp0) (S := []) trivial _ rfl)
    have F12 := Fr.step F10 F11 trivial
    refine WD.batch (f' := 9) [0, 1, 2, 5, 6, 7, 8, 9, 10, 14, 17] #[true, true, true, false, false, true, true, true, true, true, true, false, false, false, true, false, false, true, false, false] [0, 5, 45, 46, 49, 53, 54, 58, 61] rfl (E' := [(0, .pointer (some ⟨bp0, 0, none⟩)), (5, .int .i64 x1), (45, .int .i64 x1), (46, .pointer (some ⟨bp0, 0, none⟩)), (49, .int .u32 x8), (53, .int .i64 (wrem .i64 (wadd .i64 p1 9) 16)), (54, .pointer (some ⟨bp0, 0, none⟩)), (58, .int .u32 x11), (61, .pointer (some ⟨bp0, 0, none⟩))]) (by kernel_rfl) ?_
    obtain ⟨x12, q12, hm⟩ := of_let hm
    rw [q12]
    obtain ⟨⟨c6, c7⟩, hm⟩ := of_guard hm
    refine WD.valU 3 (.pointer (some ⟨bp0, 0 + Int.toNat x1 * 1, none⟩)) rfl (by kernel_rfl) rfl rfl (fun _ => (ex_indexAddrArr Try.underlying79 Try.sizeOf54 rfl rfl c6 c7)) rfl ?_
    refine WD.load 4 [19] [16, 18, 19] (.int .u32 (vget p0o x1)) rfl (by kernel_rfl) rfl rfl rfl (ex_loadOne Try.underlying54 rfl rfl h6 (Lens.comp (Lens.all _ (ints .u32 (vset p0o x1 (vget p0o x1)).toList)) (Lens.vec c6 c7 (vget p0o x1)) rfl)) ?_
    obtain ⟨⟨c8, c9⟩, hm⟩ := of_guard hm
    refine WD.valU 11 (.pointer (some ⟨bp0, 0 + Int.toNat x12 * 1, none⟩)) rfl (by kernel_rfl) rfl rfl (fun _ => (ex_indexAddrArr Try.underlying79 Try.sizeOf54 rfl rfl c8 c9)) rfl ?_
    refine WD.load 12 [19] [13, 15, 16, 18, 19] (.int .u32 (vget p0o x12)) rfl (by kernel_rfl) rfl rfl rfl (ex_loadOne Try.underlying54 rfl rfl h6 (Lens.comp (Lens.all _ (ints .u32 (vset p0o x12 (vget p0o x12)).toList)) (Lens.vec c8 c9 (vget p0o x12)) rfl)) ?_
    refine WD.batch (f' := 2) [13, 15, 16] #[true, true, true, true, true, true, true, true, true, true, true, true, true, true, true, true, true, true, false, false] [0, 5, 45, 60, 61] rfl (E' := [(0, .pointer (some ⟨bp0, 0, none⟩)), (5, .int .i64 x1), (45, .int .i64 x1), (60, .int .u32 (wadd .u32 (vget p0o x1) (wadd .u32 (wadd .u32 x8 (vget p0o x12)) x11))), (61, .pointer (some ⟨bp0, 0, none⟩))]) (by kernel_rfl) ?_
    obtain ⟨x13, q13, hm⟩ := of_let hm
    rw [q13]
    refine WD.valU 18 (.pointer (some ⟨bp0, 0 + Int.toNat x1 * 1, none⟩)) rfl (by kernel_rfl) rfl rfl (fun _ => (ex_indexAddrArr Try.underlying79 Try.sizeOf54 rfl rfl c6 c7)) rfl ?_
    refine WD.opS 19 (by kernel_rfl) rfl rfl rfl rfl (ex_storeObj rfl rfl Try.sizeOf54 h6 (Lens.comp (Lens.all _ (ints .u32 (vset p0o x1 x13).toList)) (Lens.vec c6 c7 x13) rfl) rfl rfl rfl (one_sing rfl)) ?_
    rintro w7 ⟨F13, h7⟩
    have F14 := Fr.step F12 F13 ⟨(In0.mem (by simp)), trivial⟩
    refine ⟨_, rfl, trivial, ?_⟩
    obtain ⟨a1, q14, hm⟩ := of_let hm
    rw [q14] at h7
    refine WD.end_ (by kernel_rfl) ?_
    refine W.seq ?_
    refine W.region ?_
    refine WL.batch 3 [64, 65] (E' := [(64, .int .i64 x1), (65, .pointer (some ⟨bp0, 0, none⟩))]) (by kernel_rfl) ?_
    refine WL.value (.pointer (some ⟨bp0, 0 + Int.toNat x1 * 1, none⟩)) rfl rfl rfl (ex_indexAddrArr Try.underlying79 Try.sizeOf54 rfl rfl c6 c7) rfl ?_
    refine WL.value (.int .u32 (vget a1 x1)) rfl rfl rfl (ex_loadOne Try.underlying54 rfl rfl h7 (Lens.comp (Lens.all _ (ints .u32 (vset a1 x1 (vget a1 x1)).toList)) (Lens.vec c6 c7 (vget a1 x1)) rfl)) rfl ?_
    refine WL.batch 1 [4] (E' := [(4, .int .u32 (vget a1 x1))]) (by kernel_rfl) ?_
    obtain ⟨x14, q15, hm⟩ := of_let hm
    rw [q15]
    refine WL.nil ?_
    refine W.ret ?_
    obtain ⟨q0a, q0b⟩ := Prod.mk.inj (Option.some.inj hm)
    subst q0a
    subst q0b
    exact ⟨_, ⟨_, _, rfl, rfl, rfl⟩, ⟨rfl, F14, h7⟩⟩
  · refine W.condF _ rfl c1 ?_
    refine W.skip ?_
    refine W.seq ?_
    refine W.region ?_
    refine WL.batch 3 [64, 65] (E' := [(64, .int .i64 x1), (65, .pointer (some ⟨bp0, 0, none⟩))]) (by kernel_rfl) ?_
    obtain ⟨⟨c10, c11⟩, hm⟩ := of_guard hm
    refine WL.value (.pointer (some ⟨bp0, 0 + Int.toNat x1 * 1, none⟩)) rfl rfl rfl (ex_indexAddrArr Try.underlying79 Try.sizeOf54 rfl rfl c10 c11) rfl ?_
    refine WL.value (.int .u32 (vget p0o x1)) rfl rfl rfl (ex_loadOne Try.underlying54 rfl rfl hp0 (Lens.comp (Lens.all _ (ints .u32 (vset p0o x1 (vget p0o x1)).toList)) (Lens.vec c10 c11 (vget p0o x1)) rfl)) rfl ?_
    refine WL.batch 1 [4] (E' := [(4, .int .u32 (vget p0o x1))]) (by kernel_rfl) ?_
    obtain ⟨x15, q16, hm⟩ := of_let hm
    rw [q16]
    refine WL.nil ?_
    refine W.ret ?_
    obtain ⟨q0a, q0b⟩ := Prod.mk.inj (Option.some.inj hm)
    subst q0a
    subst q0b
    exact ⟨_, ⟨_, _, rfl, rfl, rfl⟩, ⟨rfl, F0, hp0⟩⟩

/- (*cautery/sha.Hash).take -/
theorem sha_Hash_take_walk (k : Nat) (p0o_0 : Vector Int 8) (p0o_1 : Vector Int 64) (p0o_2 : Int) (p0o_3 : Int) (bp0 : Nat) (w : World) (hp0 : w.heap[bp0]? = some (.cells (ints .u32 p0o_0.toList ++ (ints .u8 p0o_1.toList ++ ([Value.int .i64 p0o_2] ++ ([Value.int .u64 p0o_3])))).toArray 76 (0, 0))) (r0 : Vector Int 8) (r1 : Vector Int 64) (r2 : Int) (r3 : Int) (hm : sha_Hash_take.f k p0o_0 p0o_1 p0o_2 p0o_3 = some (r0, r1, r2, r3)) :
    Calls Try.prog 45 #[.pointer (some ⟨bp0, 0, none⟩)] w fun e w' => e = .returned (.tuple #[]) ∧ Fr [some bp0] w w' ∧ w'.heap[bp0]? = some (.cells (ints .u32 r0.toList ++ (ints .u8 r1.toList ++ ([Value.int .i64 r2] ++ ([Value.int .u64 r3])))).toArray 76 (0, 0)) := by
  have F0 := Fr.refl [some bp0] w
  unfold sha_Hash_take.f at hm
  refine W.enter (args := [.pointer (some ⟨bp0, 0, none⟩)]) Try.func45 rfl (n := 154) rfl rfl ?_
  refine W.seq ?_
  refine W.region ?_
  refine WL.batch 3 [0, 21] (E' := [(0, .pointer (some ⟨bp0, 0, none⟩)), (21, .pointer (some ⟨bp0, 8, none⟩))]) (by kernel_rfl) ?_
  refine WL.value (.agg (ints .u8 p0o_1.toList).toArray) rfl rfl rfl (ex_loadAgg Try.underlying74 rfl Try.sizeOf74 (ivl _ _) rfl hp0 (Lens.skip (ivl _ _) (Lens.head _ (ints .u8 p0o_1.toList) _) rfl)) rfl ?_
  obtain ⟨a1, q1, hm⟩ := of_bind hm
  refine WL.call rfl rfl rfl (ex_callI (args := [.agg (ints .u8 p0o_1.toList).toArray]) rfl rfl rfl Try.call48) (sha_load_walk k p0o_1  _   a1 q1) ?_
  rintro _ w1 ⟨rfl, F1⟩
  have h1 := Fr.at F1 hp0 (ApL.not (x := some bp0) (S := []) trivial _ rfl)
  have F2 := Fr.step F0 F1 trivial
  refine ⟨_, _, rfl, rfl, ?_⟩
  obtain ⟨a2, q2, hm⟩ := of_bind hm
  refine WL.call rfl rfl rfl (ex_callI (args := []) rfl rfl rfl Try.call49) (sha_steps_walk   _   a2 q2) ?_
  rintro _ w2 ⟨rfl, F3⟩
  have h2 := Fr.at F3 h1 (ApL.not (x := some bp0) (S := []) trivial _ rfl)
  have F4 := Fr.step F2 F3 trivial
  refine ⟨_, _, rfl, rfl, ?_⟩
  refine WL.op rfl rfl rfl (ex_alloc' (z := .agg (ints .u32 (Vector.replicate 16 (0 : Int)).toList).toArray) (cs := ints .u32 (Vector.replicate 16 (0 : Int)).toList) (fun _ => by kernel_rfl) (by kernel_rfl)) ?_
  rintro _ w3 ⟨b1, rfl, N1⟩
  have h3 := N1.at_
  have s1 := Src.new [] (Ge.one N1.ge)
  have h4 := Fr.at N1.fr h2 (ApL.not (x := some bp0) (S := []) trivial _ rfl)
  have F5 := Fr.step F4 N1.fr trivial
  refine ⟨_, rfl, ?_⟩
  refine WL.op rfl rfl rfl (ex_alloc' (z := .agg (ints .u32 (Vector.replicate 64 (0 : Int)).toList).toArray) (cs := ints .u32 (Vector.replicate 64 (0 : Int)).toList) (fun _ => by kernel_rfl) (by kernel_rfl)) ?_
  rintro _ w4 ⟨b2, rfl, N2⟩
  have h5 := N2.at_
  have s2 := Src.new [] (Ge.one N2.ge)
  have h6 := Fr.at N2.fr h4 (ApL.not (x := some bp0) (S := []) trivial _ rfl)
  have h7 := Fr.at N2.fr h3 (ApL.not (x := some b1) (S := []) trivial _ rfl)
  have F6 := Fr.step F5 N2.fr trivial
  refine ⟨_, rfl, ?_⟩
  refine WL.opS rfl rfl rfl (ex_storeObj rfl rfl Try.sizeOf79 h7 (Lens.all _ (ints .u32 a1.toList)) (ivl _ _) (ivl _ _) rfl (ints_one _ _)) ?_
  rintro w5 ⟨F7, h8⟩
  have h9 := Fr.at F7 h6 (ApL.not (x := some bp0) (S := [some b1]) ⟨(Ap.symm (Src.ap' s1 (Lt.one (at_lt h2)) trivial)), trivial⟩ _ rfl)
  have h10 := Fr.at F7 h5 (ApL.not (x := some b2) (S := [some b1]) ⟨(Src.ap' s2 (Lt.one (at_lt h3)) trivial), trivial⟩ _ rfl)
  have F8 := Fr.step F6 F7 ⟨(In0.src s1 F4.size trivial), trivial⟩
  refine ⟨_, rfl, ?_⟩
  refine WL.opS rfl rfl rfl (ex_storeObj rfl rfl Try.sizeOf81 h10 (Lens.all _ (ints .u32 a2.toList)) (ivl _ _) (ivl _ _) rfl (ints_one _ _)) ?_
  rintro w6 ⟨F9, h11⟩
  have h12 := Fr.at F9 h9 (ApL.not (x := some bp0) (S := [some b2]) ⟨(Ap.symm (Src.ap' s2 (Lt.one (at_lt h4)) trivial)), trivial⟩ _ rfl)
  have h13 := Fr.at F9 h8 (ApL.not (x := some b1) (S := [some b2]) ⟨(Ap.symm (Src.ap' s2 (Lt.one (at_lt h3)) trivial)), trivial⟩ _ rfl)
  have F10 := Fr.step F8 F9 ⟨(In0.src s2 F5.size trivial), trivial⟩
  refine ⟨_, rfl, ?_⟩
  refine WL.nil ?_
  refine W.seq ?_
  refine W.regionDw (N := 24) Try_mixed rfl ?_
  intro w7 F11
  have h14 := Fr.at F11 h12 (ApL.not (x := some bp0) (S := []) trivial _ rfl)
  have h15 := Fr.at F11 h13 (ApL.not (x := some b1) (S := []) trivial _ rfl)
  have h16 := Fr.at F11 h11 (ApL.not (x := some b2) (S := []) trivial _ rfl)
  have F12 := Fr.step F10 F11 trivial
  refine WD.batch (f' := 8) [0, 1, 2, 3, 5, 6, 7, 8, 10, 11, 12, 13, 15, 16, 17, 18] #[true, true, true, true, false, true, true, true, true, false, true, true, true, true, false, true, true, true, true, false, false, false, false, false] [0, 2, 3, 28, 33, 38, 43] rfl (E' := [(0, .pointer (some ⟨bp0, 0, none⟩)), (2, .pointer (some ⟨b1, 0, none⟩)), (3, .pointer (some ⟨b2, 0, none⟩)), (28, .pointer (some ⟨bp0, 0, none⟩)), (33, .pointer (some ⟨bp0, 1, none⟩)), (38, .pointer (some ⟨bp0, 2, none⟩)), (43, .pointer (some ⟨bp0, 3, none⟩))]) (by kernel_rfl) ?_
  refine WD.load 4 [] [20, 21, 22, 23] (.int .u32 (vget p0o_0 0)) rfl (by kernel_rfl) rfl rfl rfl (ex_loadOne Try.underlying54 rfl rfl h14 (Lens.comp (Lens.head _ (ints .u32 (vset p0o_0 0 (vget p0o_0 0)).toList) _) (Lens.vecN 0 (by decide) (vget p0o_0 0)) rfl)) ?_
  refine WD.batch (f' := 6) [20] #[true, true, true, true, true, true, true, true, true, false, true, true, true, true, false, true, true, true, true, false, true, false, false, false] [0, 2, 3, 4, 33, 38, 43] rfl (E' := [(0, .pointer (some ⟨bp0, 0, none⟩)), (2, .pointer (some ⟨b1, 0, none⟩)), (3, .pointer (some ⟨b2, 0, none⟩)), (4, .int .u32 (vget p0o_0 0)), (33, .pointer (some ⟨bp0, 1, none⟩)), (38, .pointer (some ⟨bp0, 2, none⟩)), (43, .pointer (some ⟨bp0, 3, none⟩))]) (by kernel_rfl) ?_
  obtain ⟨x1, q3, hm⟩ := of_let hm
  rw [q3]
  refine WD.load 9 [] [21, 22, 23] (.int .u32 (vget p0o_0 1)) rfl (by kernel_rfl) rfl rfl rfl (ex_loadOne Try.underlying54 rfl rfl h14 (Lens.comp (Lens.head _ (ints .u32 (vset p0o_0 1 (vget p0o_0 1)).toList) _) (Lens.vecN 1 (by decide) (vget p0o_0 1)) rfl)) ?_
  refine WD.batch (f' := 4) [21] #[true, true, true, true, true, true, true, true, true, true, true, true, true, true, false, true, true, true, true, false, true, true, false, false] [0, 2, 3, 4, 5, 38, 43] rfl (E' := [(0, .pointer (some ⟨bp0, 0, none⟩)), (2, .pointer (some ⟨b1, 0, none⟩)), (3, .pointer (some ⟨b2, 0, none⟩)), (4, .int .u32 x1), (5, .int .u32 (vget p0o_0 1)), (38, .pointer (some ⟨bp0, 2, none⟩)), (43, .pointer (some ⟨bp0, 3, none⟩))]) (by kernel_rfl) ?_
  obtain ⟨x2, q4, hm⟩ := of_let hm
  rw [q4]
  refine WD.load 14 [] [22, 23] (.int .u32 (vget p0o_0 2)) rfl (by kernel_rfl) rfl rfl rfl (ex_loadOne Try.underlying54 rfl rfl h14 (Lens.comp (Lens.head _ (ints .u32 (vset p0o_0 2 (vget p0o_0 2)).toList) _) (Lens.vecN 2 (by decide) (vget p0o_0 2)) rfl)) ?_
  refine WD.batch (f' := 2) [22] #[true, true, true, true, true, true, true, true, true, true, true, true, true, true, true, true, true, true, true, false, true, true, true, false] [0, 2, 3, 4, 5, 6, 43] rfl (E' := [(0, .pointer (some ⟨bp0, 0, none⟩)), (2, .pointer (some ⟨b1, 0, none⟩)), (3, .pointer (some ⟨b2, 0, none⟩)), (4, .int .u32 x1), (5, .int .u32 x2), (6, .int .u32 (vget p0o_0 2)), (43, .pointer (some ⟨bp0, 3, none⟩))]) (by kernel_rfl) ?_
  obtain ⟨x3, q5, hm⟩ := of_let hm
  rw [q5]
  refine WD.load 19 [] [23] (.int .u32 (vget p0o_0 3)) rfl (by kernel_rfl) rfl rfl rfl (ex_loadOne Try.underlying54 rfl rfl h14 (Lens.comp (Lens.head _ (ints .u32 (vset p0o_0 3 (vget p0o_0 3)).toList) _) (Lens.vecN 3 (by decide) (vget p0o_0 3)) rfl)) ?_
  refine WD.batch (f' := 0) [23] #[true, true, true, true, true, true, true, true, true, true, true, true, true, true, true, true, true, true, true, true, true, true, true, true] [0, 2, 3, 4, 5, 6, 7] rfl (E' := [(0, .pointer (some ⟨bp0, 0, none⟩)), (2, .pointer (some ⟨b1, 0, none⟩)), (3, .pointer (some ⟨b2, 0, none⟩)), (4, .int .u32 x1), (5, .int .u32 x2), (6, .int .u32 x3), (7, .int .u32 (vget p0o_0 3))]) (by kernel_rfl) ?_
  obtain ⟨x4, q6, hm⟩ := of_let hm
  rw [q6]
  refine WD.end_ (by kernel_rfl) ?_
  refine W.seq ?_
  refine W.regionDw (N := 24) Try_mixed rfl ?_
  intro w8 F13
  have h17 := Fr.at F13 h14 (ApL.not (x := some bp0) (S := []) trivial _ rfl)
  have h18 := Fr.at F13 h15 (ApL.not (x := some b1) (S := []) trivial _ rfl)
  have h19 := Fr.at F13 h16 (ApL.not (x := some b2) (S := []) trivial _ rfl)
  have F14 := Fr.step F12 F13 trivial
  refine WD.batch (f' := 8) [0, 1, 2, 3, 5, 6, 7, 8, 10, 11, 12, 13, 15, 16, 17, 18] #[true, true, true, true, false, true, true, true, true, false, true, true, true, true, false, true, true, true, true, false, false, false, false, false] [0, 2, 3, 4, 5, 6, 7, 48, 53, 58, 63] rfl (E' := [(0, .pointer (some ⟨bp0, 0, none⟩)), (2, .pointer (some ⟨b1, 0, none⟩)), (3, .pointer (some ⟨b2, 0, none⟩)), (4, .int .u32 x1), (5, .int .u32 x2), (6, .int .u32 x3), (7, .int .u32 x4), (48, .pointer (some ⟨bp0, 4, none⟩)), (53, .pointer (some ⟨bp0, 5, none⟩)), (58, .pointer (some ⟨bp0, 6, none⟩)), (63, .pointer (some ⟨bp0, 7, none⟩))]) (by kernel_rfl) ?_
  refine WD.load 4 [] [20, 21, 22, 23] (.int .u32 (vget p0o_0 4)) rfl (by kernel_rfl) rfl rfl rfl (ex_loadOne Try.underlying54 rfl rfl h17 (Lens.comp (Lens.head _ (ints .u32 (vset p0o_0 4 (vget p0o_0 4)).toList) _) (Lens.vecN 4 (by decide) (vget p0o_0 4)) rfl)) ?_
  refine WD.batch (f' := 6) [20] #[true, true, true, true, true, true, true, true, true, false, true, true, true, true, false, true, true, true, true, false, true, false, false, false] [0, 2, 3, 4, 5, 6, 7, 8, 53, 58, 63] rfl (E' := [(0, .pointer (some ⟨bp0, 0, none⟩)), (2, .pointer (some ⟨b1, 0, none⟩)), (3, .pointer (some ⟨b2, 0, none⟩)), (4, .int .u32 x1), (5, .int .u32 x2), (6, .int .u32 x3), (7, .int .u32 x4), (8, .int .u32 (vget p0o_0 4)), (53, .pointer (some ⟨bp0, 5, none⟩)), (58, .pointer (some ⟨bp0, 6, none⟩)), (63, .pointer (some ⟨bp0, 7, none⟩))]) (by kernel_rfl) ?_
  obtain ⟨x5, q7, hm⟩ := of_let hm
  rw [q7]
  refine WD.load 9 [] [21, 22, 23] (.int .u32 (vget p0o_0 5)) rfl (by kernel_rfl) rfl rfl rfl (ex_loadOne Try.underlying54 rfl rfl h17 (Lens.comp (Lens.head _ (ints .u32 (vset p0o_0 5 (vget p0o_0 5)).toList) _) (Lens.vecN 5 (by decide) (vget p0o_0 5)) rfl)) ?_
  refine WD.batch (f' := 4) [21] #[true, true, true, true, true, true, true, true, true, true, true, true, true, true, false, true, true, true, true, false, true, true, false, false] [0, 2, 3, 4, 5, 6, 7, 8, 9, 58, 63] rfl (E' := [(0, .pointer (some ⟨bp0, 0, none⟩)), (2, .pointer (some ⟨b1, 0, none⟩)), (3, .pointer (some ⟨b2, 0, none⟩)), (4, .int .u32 x1), (5, .int .u32 x2), (6, .int .u32 x3), (7, .int .u32 x4), (8, .int .u32 x5), (9, .int .u32 (vget p0o_0 5)), (58, .pointer (some ⟨bp0, 6, none⟩)), (63, .pointer (some ⟨bp0, 7, none⟩))]) (by kernel_rfl) ?_
  obtain ⟨x6, q8, hm⟩ := of_let hm
  rw [q8]
  refine WD.load 14 [] [22, 23] (.int .u32 (vget p0o_0 6)) rfl (by kernel_rfl) rfl rfl rfl (ex_loadOne Try.underlying54 rfl rfl h17 (Lens.comp (Lens.head _ (ints .u32 (vset p0o_0 6 (vget p0o_0 6)).toList) _) (Lens.vecN 6 (by decide) (vget p0o_0 6)) rfl)) ?_
  refine WD.batch (f' := 2) [22] #[true, true, true, true, true, true, true, true, true, true, true, true, true, true, true, true, true, true, true, false, true, true, true, false] [0, 2, 3, 4, 5, 6, 7, 8, 9, 10, 63] rfl (E' := [(0, .pointer (some ⟨bp0, 0, none⟩)), (2, .pointer (some ⟨b1, 0, none⟩)), (3, .pointer (some ⟨b2, 0, none⟩)), (4, .int .u32 x1), (5, .int .u32 x2), (6, .int .u32 x3), (7, .int .u32 x4), (8, .int .u32 x5), (9, .int .u32 x6), (10, .int .u32 (vget p0o_0 6)), (63, .pointer (some ⟨bp0, 7, none⟩))]) (by kernel_rfl) ?_
  obtain ⟨x7, q9, hm⟩ := of_let hm
  rw [q9]
  refine WD.load 19 [] [23] (.int .u32 (vget p0o_0 7)) rfl (by kernel_rfl) rfl rfl rfl (ex_loadOne Try.underlying54 rfl rfl h17 (Lens.comp (Lens.head _ (ints .u32 (vset p0o_0 7 (vget p0o_0 7)).toList) _) (Lens.vecN 7 (by decide) (vget p0o_0 7)) rfl)) ?_
  refine WD.batch (f' := 0) [23] #[true, true, true, true, true, true, true, true, true, true, true, true, true, true, true, true, true, true, true, true, true, true, true, true] [0, 2, 3, 4, 5, 6, 7, 8, 9, 10, 11] rfl (E' := [(0, .pointer (some ⟨bp0, 0, none⟩)), (2, .pointer (some ⟨b1, 0, none⟩)), (3, .pointer (some ⟨b2, 0, none⟩)), (4, .int .u32 x1), (5, .int .u32 x2), (6, .int .u32 x3), (7, .int .u32 x4), (8, .int .u32 x5), (9, .int .u32 x6), (10, .int .u32 x7), (11, .int .u32 (vget p0o_0 7))]) (by kernel_rfl) ?_
  obtain ⟨x8, q10, hm⟩ := of_let hm
  rw [q10]
  refine WD.end_ (by kernel_rfl) ?_
  refine W.seq ?_
  refine W.seq ?_
  refine W.region ?_
  refine WL.batch 1 [0, 2, 3, 4, 5, 6, 7, 8, 9, 10, 11, 65] (E' := [(0, .pointer (some ⟨bp0, 0, none⟩)), (2, .pointer (some ⟨b1, 0, none⟩)), (3, .pointer (some ⟨b2, 0, none⟩)), (4, .int .u32 x1), (5, .int .u32 x2), (6, .int .u32 x3), (7, .int .u32 x4), (8, .int .u32 x5), (9, .int .u32 x6), (10, .int .u32 x7), (11, .int .u32 x8), (65, .int .i64 0)]) (by kernel_rfl) ?_
  refine WL.nil ?_
  obtain ⟨ex1, hm1, hm2⟩ := of_bind hm
  refine W.joinN (fun E w9 => ∃ (x9 : Int) (x10 : Int) (x11 : Int) (x12 : Int) (x13 : Int) (x14 : Int) (x15 : Int) (x16 : Int) (a3 : Vector Int 16), Env.sub E [(0, .pointer (some ⟨bp0, 0, none⟩)), (4, .int .u32 x9), (5, .int .u32 x10), (6, .int .u32 x11), (7, .int .u32 x12), (8, .int .u32 x13), (9, .int .u32 x14), (10, .int .u32 x15), (11, .int .u32 x16)] ∧ w9.heap[bp0]? = some (.cells (ints .u32 p0o_0.toList ++ (ints .u8 p0o_1.toList ++ ([Value.int .i64 p0o_2] ++ ([Value.int .u64 p0o_3])))).toArray 76 (0, 0)) ∧ w9.heap[b1]? = some (.cells (ints .u32 a3.toList).toArray 79 (0, 0)) ∧ w9.heap[b2]? = some (.cells (ints .u32 a2.toList).toArray 81 (0, 0)) ∧ Fr [some bp0] w w9 ∧ (x9, x10, x11, x12, x13, x14, x15, x16, a3) = ex1) ?_ (fun rest1 => ?_)
  · rintro _ w9 ⟨x9, x10, x11, x12, x13, x14, x15, x16, a3, hE, h20, h21, h22, F15, rfl⟩
    replace hm := hm2
    clear hm1
    refine W.sub ?_ hE
    refine W.seq ?_
    refine W.seq ?_
    refine W.region ?_
    refine WL.batch 10 [0, 134, 135] (E' := [(0, .pointer (some ⟨bp0, 0, none⟩)), (134, .agg (ints .u32 (#v[x9, x10, x11, x12, x13, x14, x15, x16] : Vector Int 8).toList).toArray), (135, .int .i64 0)]) (by kernel_rfl) ?_
    refine WL.nil ?_
    obtain ⟨ex2, hm3, hm4⟩ := of_bind hm
    refine W.joinN (fun E w10 => ∃ (a4 : Vector Int 8), Env.sub E [(0, .pointer (some ⟨bp0, 0, none⟩))] ∧ w10.heap[bp0]? = some (.cells (ints .u32 a4.toList ++ (ints .u8 p0o_1.toList ++ ([Value.int .i64 p0o_2] ++ ([Value.int .u64 p0o_3])))).toArray 76 (0, 0)) ∧ w10.heap[b1]? = some (.cells (ints .u32 a3.toList).toArray 79 (0, 0)) ∧ w10.heap[b2]? = some (.cells (ints .u32 a2.toList).toArray 81 (0, 0)) ∧ Fr [some bp0] w w10 ∧ a4 = ex2) ?_ (fun rest2 => ?_)
    · rintro _ w10 ⟨a4, hE, h23, h24, h25, F16, rfl⟩
      replace hm := hm4
      clear hm3
      refine W.sub ?_ hE
      refine W.region ?_
      refine WL.batch 3 [153] (E' := [(153, .pointer (some ⟨bp0, 72, none⟩))]) (by kernel_rfl) ?_
      refine WL.opS rfl rfl rfl (ex_storeObj rfl rfl Try.sizeOf3 h23 (Lens.skip (ivl _ _) (Lens.skip (ivl _ _) (Lens.head _ ([Value.int .i64 0]) _) rfl) rfl) rfl rfl rfl (one_sing rfl)) ?_
      rintro w11 ⟨F17, h26⟩
      have h27 := Fr.at F17 h24 (ApL.not (x := some b1) (S := [some bp0]) ⟨(Src.ap' s1 (Lt.one (at_lt h2)) trivial), trivial⟩ _ rfl)
      have h28 := Fr.at F17 h25 (ApL.not (x := some b2) (S := [some bp0]) ⟨(Src.ap' s2 (Lt.one (at_lt h4)) trivial), trivial⟩ _ rfl)
      have F18 := Fr.step F16 F17 ⟨(In0.mem (by simp)), trivial⟩
      refine ⟨_, rfl, ?_⟩
      refine WL.nil ?_
      obtain ⟨q0a, q0b⟩ := Prod.mk.inj (Option.some.inj hm)
      obtain ⟨q1a, q1b⟩ := Prod.mk.inj (q0b)
      obtain ⟨q2a, q2b⟩ := Prod.mk.inj (q1b)
      subst q0a
      subst q1a
      subst q2a
      subst q2b
      exact ⟨_, rfl, ⟨rfl, F18, h26⟩⟩
    · replace hm := hm3
      clear hm3
      refine W.block ?_
      refine W.loop (fun j1 E w12 => ∃ (x17 : Int) (a5 : Vector Int 8), Env.sub E [(0, .pointer (some ⟨bp0, 0, none⟩)), (134, .agg (ints .u32 (#v[x9, x10, x11, x12, x13, x14, x15, x16] : Vector Int 8).toList).toArray), (135, .int .i64 x17)] ∧ w12.heap[bp0]? = some (.cells (ints .u32 a5.toList ++ (ints .u8 p0o_1.toList ++ ([Value.int .i64 p0o_2] ++ ([Value.int .u64 p0o_3])))).toArray 76 (0, 0)) ∧ w12.heap[b1]? = some (.cells (ints .u32 a3.toList).toArray 79 (0, 0)) ∧ w12.heap[b2]? = some (.cells (ints .u32 a2.toList).toArray 81 (0, 0)) ∧ Fr [some bp0] w w12 ∧ sha_Hash_take.l0 x9 x10 x11 x12 x13 x14 x15 x16 j1 x17 a5 = some ex2) ?_ k ?_ ?_
      · rintro _ _ ⟨_, _, _, _, _, _, _, hz⟩
        exact absurd hz (by simp [sha_Hash_take.l0])
      · exact ⟨0, p0o_0, ⟨rfl, rfl, rfl, trivial⟩, h20, h21, h22, F15, hm⟩
      · rintro j1 _ w12 ⟨x17, a5, hE, h29, h30, h31, F19, hm⟩
        rw [sha_Hash_take.l0] at hm
        refine W.sub ?_ hE
        refine W.seq ?_
        refine W.region ?_
        refine WL.batch 1 [0, 134, 135, 136] (E' := [(0, .pointer (some ⟨bp0, 0, none⟩)), (134, .agg (ints .u32 (#v[x9, x10, x11, x12, x13, x14, x15, x16] : Vector Int 8).toList).toArray), (135, .int .i64 x17), (136, .bool (decide (x17 < (8 : Int))))]) (by kernel_rfl) ?_
        refine WL.nil ?_
        refine W.seq ?_
        rcases of_cond hm with ⟨c1, hm⟩ | ⟨c1, hm⟩
        · refine W.condT _ rfl c1 ?_
          refine W.skip ?_
          refine W.seq ?_
          refine W.block ?_
          refine W.seq ?_
          refine W.region ?_
          refine WL.batch 1 [0, 134, 135, 137] (E' := [(0, .pointer (some ⟨bp0, 0, none⟩)), (134, .agg (ints .u32 (#v[x9, x10, x11, x12, x13, x14, x15, x16] : Vector Int 8).toList).toArray), (135, .int .i64 x17), (137, .int .i64 x17)]) (by kernel_rfl) ?_
          obtain ⟨⟨c2, c3⟩, hm⟩ := of_guard hm
          refine WL.value (.int .u32 (vget (#v[x9, x10, x11, x12, x13, x14, x15, x16] : Vector Int 8) x17)) rfl rfl rfl (ex_indexI Try.underlying55 Try.underlying54 Try.sizeOf54 rfl rfl c2 c3) rfl ?_
          refine WL.batch 2 [0, 17, 18, 134, 135] (E' := [(0, .pointer (some ⟨bp0, 0, none⟩)), (17, .int .i64 x17), (18, .int .u32 (vget (#v[x9, x10, x11, x12, x13, x14, x15, x16] : Vector Int 8) x17)), (134, .agg (ints .u32 (#v[x9, x10, x11, x12, x13, x14, x15, x16] : Vector Int 8).toList).toArray), (135, .int .i64 x17)]) (by kernel_rfl) ?_
          obtain ⟨x18, q11, hm⟩ := of_let hm
          rw [q11]
          refine WL.nil ?_
          refine W.regionDw (N := 12) Try_mixed rfl ?_
          intro w13 F20
          have h32 := Fr.at F20 h29 (ApL.not (x := some bp0) (S := []) trivial _ rfl)
          have h33 := Fr.at F20 h30 (ApL.not (x := some b1) (S := []) trivial _ rfl)
          have h34 := Fr.at F20 h31 (ApL.not (x := some b2) (S := []) trivial _ rfl)
          have F21 := Fr.step F19 F20 trivial
          refine WD.batch (f' := 5) [0, 1, 2, 3, 6, 8, 9] #[true, true, true, true, false, false, true, false, true, true, false, false] [0, 134, 135, 140, 142, 145, 148] rfl (E' := [(0, .pointer (some ⟨bp0, 0, none⟩)), (134, .agg (ints .u32 (#v[x9, x10, x11, x12, x13, x14, x15, x16] : Vector Int 8).toList).toArray), (135, .int .i64 x17), (140, .int .i64 x17), (142, .pointer (some ⟨bp0, 0, none⟩)), (145, .int .u32 x18), (148, .pointer (some ⟨bp0, 0, none⟩))]) (by kernel_rfl) ?_
          refine WD.valU 4 (.pointer (some ⟨bp0, 0 + Int.toNat x17 * 1, none⟩)) rfl (by kernel_rfl) rfl rfl (fun _ => (ex_indexAddrArr Try.underlying55 Try.sizeOf54 rfl rfl c2 c3)) rfl ?_
          refine WD.load 5 [11] [7, 10, 11] (.int .u32 (vget a5 x17)) rfl (by kernel_rfl) rfl rfl rfl (ex_loadOne Try.underlying54 rfl rfl h32 (Lens.comp (Lens.head _ (ints .u32 (vset a5 x17 (vget a5 x17)).toList) _) (Lens.vec c2 c3 (vget a5 x17)) rfl)) ?_
          refine WD.batch (f' := 2) [7] #[true, true, true, true, true, true, true, true, true, true, false, false] [0, 134, 135, 140, 146, 148] rfl (E' := [(0, .pointer (some ⟨bp0, 0, none⟩)), (134, .agg (ints .u32 (#v[x9, x10, x11, x12, x13, x14, x15, x16] : Vector Int 8).toList).toArray), (135, .int .i64 x17), (140, .int .i64 x17), (146, .int .u32 (wadd .u32 (vget a5 x17) x18)), (148, .pointer (some ⟨bp0, 0, none⟩))]) (by kernel_rfl) ?_
          obtain ⟨x19, q12, hm⟩ := of_let hm
          rw [q12]
          refine WD.valU 10 (.pointer (some ⟨bp0, 0 + Int.toNat x17 * 1, none⟩)) rfl (by kernel_rfl) rfl rfl (fun _ => (ex_indexAddrArr Try.underlying55 Try.sizeOf54 rfl rfl c2 c3)) rfl ?_
          refine WD.opS 11 (by kernel_rfl) rfl rfl rfl rfl (ex_storeObj rfl rfl Try.sizeOf54 h32 (Lens.comp (Lens.head _ (ints .u32 (vset a5 x17 x19).toList) _) (Lens.vec c2 c3 x19) rfl) rfl rfl rfl (one_sing rfl)) ?_
          rintro w14 ⟨F22, h35⟩
          have h36 := Fr.at F22 h33 (ApL.not (x := some b1) (S := [some bp0]) ⟨(Src.ap' s1 (Lt.one (at_lt h2)) trivial), trivial⟩ _ rfl)
          have h37 := Fr.at F22 h34 (ApL.not (x := some b2) (S := [some bp0]) ⟨(Src.ap' s2 (Lt.one (at_lt h4)) trivial), trivial⟩ _ rfl)
          have F23 := Fr.step F21 F22 ⟨(In0.mem (by simp)), trivial⟩
          refine ⟨_, rfl, trivial, ?_⟩
          obtain ⟨a6, q13, hm⟩ := of_let hm
          rw [q13] at h35
          refine WD.end_ (by kernel_rfl) ?_
          refine W.region ?_
          refine WL.batch 2 [0, 134, 135] (E' := [(0, .pointer (some ⟨bp0, 0, none⟩)), (134, .agg (ints .u32 (#v[x9, x10, x11, x12, x13, x14, x15, x16] : Vector Int 8).toList).toArray), (135, .int .i64 (wadd .i64 x17 1))]) (by kernel_rfl) ?_
          obtain ⟨x20, q14, hm⟩ := of_let hm
          rw [q14]
          refine WL.nil ?_
          exact ⟨x20, a6, ⟨rfl, rfl, rfl, trivial⟩, h35, h36, h37, F23, hm⟩
        · refine W.condF _ rfl c1 ?_
          refine W.exit ?_
          exact rest2 _ _ ⟨a5, ⟨rfl, trivial⟩, h29, h30, h31, F19, (Option.some.inj hm)⟩
  · replace hm := hm1
    clear hm1
    refine W.block ?_
    refine W.loop (fun j2 E w15 => ∃ (x21 : Int) (x22 : Int) (x23 : Int) (x24 : Int) (x25 : Int) (x26 : Int) (x27 : Int) (x28 : Int) (x29 : Int) (a7 : Vector Int 16), Env.sub E [(0, .pointer (some ⟨bp0, 0, none⟩)), (2, .pointer (some ⟨b1, 0, none⟩)), (3, .pointer (some ⟨b2, 0, none⟩)), (4, .int .u32 x21), (5, .int .u32 x22), (6, .int .u32 x23), (7, .int .u32 x24), (8, .int .u32 x25), (9, .int .u32 x26), (10, .int .u32 x27), (11, .int .u32 x28), (65, .int .i64 x29)] ∧ w15.heap[bp0]? = some (.cells (ints .u32 p0o_0.toList ++ (ints .u8 p0o_1.toList ++ ([Value.int .i64 p0o_2] ++ ([Value.int .u64 p0o_3])))).toArray 76 (0, 0)) ∧ w15.heap[b1]? = some (.cells (ints .u32 a7.toList).toArray 79 (0, 0)) ∧ w15.heap[b2]? = some (.cells (ints .u32 a2.toList).toArray 81 (0, 0)) ∧ Fr [some bp0] w w15 ∧ sha_Hash_take.l1 a2 j2 x21 x22 x23 x24 x25 x26 x27 x28 x29 a7 = some ex1) ?_ k ?_ ?_
    · rintro _ _ ⟨_, _, _, _, _, _, _, _, _, _, _, _, _, _, _, hz⟩
      exact absurd hz (by simp [sha_Hash_take.l1])
    · exact ⟨x1, x2, x3, x4, x5, x6, x7, x8, 0, a1, ⟨rfl, rfl, rfl, rfl, rfl, rfl, rfl, rfl, rfl, rfl, rfl, rfl, trivial⟩, h17, h18, h19, F14, hm⟩
    · rintro j2 _ w15 ⟨x21, x22, x23, x24, x25, x26, x27, x28, x29, a7, hE, h38, h39, h40, F24, hm⟩
      rw [sha_Hash_take.l1] at hm
      refine W.sub ?_ hE
      refine W.seq ?_
      refine W.region ?_
      refine WL.batch 1 [0, 2, 3, 4, 5, 6, 7, 8, 9, 10, 11, 65, 66] (E' := [(0, .pointer (some ⟨bp0, 0, none⟩)), (2, .pointer (some ⟨b1, 0, none⟩)), (3, .pointer (some ⟨b2, 0, none⟩)), (4, .int .u32 x21), (5, .int .u32 x22), (6, .int .u32 x23), (7, .int .u32 x24), (8, .int .u32 x25), (9, .int .u32 x26), (10, .int .u32 x27), (11, .int .u32 x28), (65, .int .i64 x29), (66, .bool (decide (x29 < (64 : Int))))]) (by kernel_rfl) ?_
      refine WL.nil ?_
      refine W.seq ?_
      rcases of_cond hm with ⟨c4, hm⟩ | ⟨c4, hm⟩
      · refine W.condT _ rfl c4 ?_
        refine W.skip ?_
        refine W.seq ?_
        refine W.block ?_
        refine W.seq ?_
        refine W.region ?_
        refine WL.batch 2 [0, 2, 3, 4, 5, 6, 7, 8, 9, 10, 11, 12, 65] (E' := [(0, .pointer (some ⟨bp0, 0, none⟩)), (2, .pointer (some ⟨b1, 0, none⟩)), (3, .pointer (some ⟨b2, 0, none⟩)), (4, .int .u32 x21), (5, .int .u32 x22), (6, .int .u32 x23), (7, .int .u32 x24), (8, .int .u32 x25), (9, .int .u32 x26), (10, .int .u32 x27), (11, .int .u32 x28), (12, .int .i64 x29), (65, .int .i64 x29)]) (by kernel_rfl) ?_
        refine WL.nil ?_
        refine W.seq ?_
        refine W.region ?_
        refine WL.batch 8 [0, 2, 3, 4, 5, 6, 7, 8, 9, 10, 11, 12, 13, 65] (E' := [(0, .pointer (some ⟨bp0, 0, none⟩)), (2, .pointer (some ⟨b1, 0, none⟩)), (3, .pointer (some ⟨b2, 0, none⟩)), (4, .int .u32 x21), (5, .int .u32 x22), (6, .int .u32 x23), (7, .int .u32 x24), (8, .int .u32 x25), (9, .int .u32 x26), (10, .int .u32 x27), (11, .int .u32 x28), (12, .int .i64 x29), (13, .int .u32 (wxor .u32 x27 (wand .u32 x25 (wxor .u32 x26 x27)))), (65, .int .i64 x29)]) (by kernel_rfl) ?_
        obtain ⟨x30, q15, hm⟩ := of_let hm
        rw [q15]
        refine WL.nil ?_
        refine W.seq ?_
        refine W.region ?_
        refine WL.batch 10 [0, 2, 3, 4, 5, 6, 7, 8, 9, 10, 11, 12, 13, 14, 65] (E' := [(0, .pointer (some ⟨bp0, 0, none⟩)), (2, .pointer (some ⟨b1, 0, none⟩)), (3, .pointer (some ⟨b2, 0, none⟩)), (4, .int .u32 x21), (5, .int .u32 x22), (6, .int .u32 x23), (7, .int .u32 x24), (8, .int .u32 x25), (9, .int .u32 x26), (10, .int .u32 x27), (11, .int .u32 x28), (12, .int .i64 x29), (13, .int .u32 x30), (14, .int .u32 (wor .u32 (wand .u32 x21 x22) (wand .u32 x23 (wor .u32 x21 x22)))), (65, .int .i64 x29)]) (by kernel_rfl) ?_
        obtain ⟨x31, q16, hm⟩ := of_let hm
        rw [q16]
        refine WL.nil ?_
        refine W.seq ?_
        refine W.regionDw (N := 20) Try_mixed rfl ?_
        intro w16 F25
        have h41 := Fr.at F25 h38 (ApL.not (x := some bp0) (S := []) trivial _ rfl)
        have h42 := Fr.at F25 h39 (ApL.not (x := some b1) (S := []) trivial _ rfl)
        have h43 := Fr.at F25 h40 (ApL.not (x := some b2) (S := []) trivial _ rfl)
        have F26 := Fr.step F24 F25 trivial
        refine WD.batch (f' := 13) [0, 1, 3, 6, 10, 12, 16] #[true, true, false, true, false, false, true, false, false, false, true, false, true, false, false, false, true, false, false, false] [0, 2, 3, 4, 5, 6, 7, 8, 9, 10, 14, 65, 84, 85, 87, 90, 94, 96, 100] rfl (E' := [(0, .pointer (some ⟨bp0, 0, none⟩)), (2, .pointer (some ⟨b1, 0, none⟩)), (3, .pointer (some ⟨b2, 0, none⟩)), (4, .int .u32 x21), (5, .int .u32 x22), (6, .int .u32 x23), (7, .int .u32 x24), (8, .int .u32 x25), (9, .int .u32 x26), (10, .int .u32 x27), (14, .int .u32 x31), (65, .int .i64 x29), (84, .int .u32 x28), (85, .int .u32 x25), (87, .int .u32 x25), (90, .int .u32 x25), (94, .int .u32 x30), (96, .int .i64 x29), (100, .int .i64 x29)]) (by kernel_rfl) ?_
        obtain ⟨⟨c5, c6⟩, hm⟩ := of_guard hm
        refine WD.valU 13 (.pointer (some ⟨b2, 0 + Int.toNat x29 * 1, none⟩)) rfl (by kernel_rfl) rfl rfl (fun _ => (ex_indexAddrArr Try.underlying81 Try.sizeOf54 rfl rfl c5 c6)) rfl ?_
        refine WD.load 14 [] [15, 18, 19] (.int .u32 (vget a2 x29)) rfl (by kernel_rfl) rfl rfl rfl (ex_loadOne Try.underlying54 rfl rfl h43 (Lens.comp (Lens.all _ (ints .u32 (vset a2 x29 (vget a2 x29)).toList)) (Lens.vec c5 c6 (vget a2 x29)) rfl)) ?_
        obtain ⟨x32, q17, hm⟩ := of_bind hm
        refine WD.call 2 (by kernel_rfl) rfl rfl rfl rfl (ex_callI (args := [.int .u32 x25, .int .i64 (-6)]) rfl rfl rfl Try.call50) (bits_RotateLeft32_walk x25 (-6)  _   x32 q17) ?_
        rintro _ w17 ⟨rfl, F27⟩
        have h44 := Fr.at F27 h41 (ApL.not (x := some bp0) (S := []) trivial _ rfl)
        have h45 := Fr.at F27 h42 (ApL.not (x := some b1) (S := []) trivial _ rfl)
        have h46 := Fr.at F27 h43 (ApL.not (x := some b2) (S := []) trivial _ rfl)
        have F28 := Fr.step F26 F27 trivial
        refine ⟨_, _, rfl, rfl, ⟨(ex_loadOne Try.underlying54 rfl rfl h46 (Lens.comp (Lens.all _ (ints .u32 (vset a2 x29 (vget a2 x29)).toList)) (Lens.vec c5 c6 (vget a2 x29)) rfl)), trivial⟩, ?_⟩
        obtain ⟨x33, q18, hm⟩ := of_bind hm
        refine WD.call 4 (by kernel_rfl) rfl rfl rfl rfl (ex_callI (args := [.int .u32 x25, .int .i64 (-11)]) rfl rfl rfl Try.call50) (bits_RotateLeft32_walk x25 (-11)  _   x33 q18) ?_
        rintro _ w18 ⟨rfl, F29⟩
        have h47 := Fr.at F29 h44 (ApL.not (x := some bp0) (S := []) trivial _ rfl)
        have h48 := Fr.at F29 h45 (ApL.not (x := some b1) (S := []) trivial _ rfl)
        have h49 := Fr.at F29 h46 (ApL.not (x := some b2) (S := []) trivial _ rfl)
        have F30 := Fr.step F28 F29 trivial
        refine ⟨_, _, rfl, rfl, ⟨(ex_loadOne Try.underlying54 rfl rfl h49 (Lens.comp (Lens.all _ (ints .u32 (vset a2 x29 (vget a2 x29)).toList)) (Lens.vec c5 c6 (vget a2 x29)) rfl)), trivial⟩, ?_⟩
        refine WD.batch (f' := 8) [5] #[true, true, true, true, true, true, true, false, false, false, true, false, true, true, true, false, true, false, false, false] [0, 2, 3, 4, 5, 6, 7, 8, 9, 10, 14, 65, 84, 89, 90, 94, 98, 100] rfl (E' := [(0, .pointer (some ⟨bp0, 0, none⟩)), (2, .pointer (some ⟨b1, 0, none⟩)), (3, .pointer (some ⟨b2, 0, none⟩)), (4, .int .u32 x21), (5, .int .u32 x22), (6, .int .u32 x23), (7, .int .u32 x24), (8, .int .u32 x25), (9, .int .u32 x26), (10, .int .u32 x27), (14, .int .u32 x31), (65, .int .i64 x29), (84, .int .u32 x28), (89, .int .u32 (wxor .u32 x32 x33)), (90, .int .u32 x25), (94, .int .u32 x30), (98, .int .u32 (vget a2 x29)), (100, .int .i64 x29)]) (by kernel_rfl) ?_
        obtain ⟨x34, q19, hm⟩ := of_let hm
        rw [q19]
        obtain ⟨x35, q20, hm⟩ := of_let hm
        rw [q20]
        obtain ⟨x36, q21, hm⟩ := of_bind hm
        refine WD.call 7 (by kernel_rfl) rfl rfl rfl rfl (ex_callI (args := [.int .u32 x25, .int .i64 (-25)]) rfl rfl rfl Try.call50) (bits_RotateLeft32_walk x25 (-25)  _   x36 q21) ?_
        rintro _ w19 ⟨rfl, F31⟩
        have h50 := Fr.at F31 h47 (ApL.not (x := some bp0) (S := []) trivial _ rfl)
        have h51 := Fr.at F31 h48 (ApL.not (x := some b1) (S := []) trivial _ rfl)
        have h52 := Fr.at F31 h49 (ApL.not (x := some b2) (S := []) trivial _ rfl)
        have F32 := Fr.step F30 F31 trivial
        refine ⟨_, _, rfl, rfl, ⟨(by first | exact (ex_loadOne Try.underlying54 rfl rfl h52 (Lens.comp (Lens.all _ (ints .u32 (vset a2 x29 (vget a2 x29)).toList)) (Lens.vec c5 c6 (vget a2 x29)) rfl)) | (rw [← q19]; exact (ex_loadOne Try.underlying54 rfl rfl h52 (Lens.comp (Lens.all _ (ints .u32 (vset a2 x29 (vget a2 x29)).toList)) (Lens.vec c5 c6 (vget a2 x29)) rfl))) | (rw [← q20]; exact (ex_loadOne Try.underlying54 rfl rfl h52 (Lens.comp (Lens.all _ (ints .u32 (vset a2 x29 (vget a2 x29)).toList)) (Lens.vec c5 c6 (vget a2 x29)) rfl)))), trivial⟩, ?_⟩
        refine WD.batch (f' := 3) [8, 9, 11, 15] #[true, true, true, true, true, true, true, true, true, true, true, true, true, true, true, true, true, false, false, false] [0, 2, 3, 4, 5, 6, 7, 8, 9, 10, 14, 65, 99, 100] rfl (E' := [(0, .pointer (some ⟨bp0, 0, none⟩)), (2, .pointer (some ⟨b1, 0, none⟩)), (3, .pointer (some ⟨b2, 0, none⟩)), (4, .int .u32 x21), (5, .int .u32 x22), (6, .int .u32 x23), (7, .int .u32 x24), (8, .int .u32 x25), (9, .int .u32 x26), (10, .int .u32 x27), (14, .int .u32 x31), (65, .int .i64 x29), (99, .int .u32 (wadd .u32 (wadd .u32 (wadd .u32 x28 (wxor .u32 x34 x36)) x30) x35)), (100, .int .i64 x29)]) (by kernel_rfl) ?_
        obtain ⟨x37, q22, hm⟩ := of_let hm
        rw [q22]
        obtain ⟨⟨x38, a8⟩, q23, hm⟩ := of_bind hm
        refine WD.call 17 (by kernel_rfl) rfl rfl rfl rfl (ex_callI (args := [.pointer (some ⟨b1, 0, none⟩), .int .i64 x29]) rfl rfl rfl Try.call51) (sha_wheel_next_walk a7 x29 b1 _ h51  x38 a8 q23) ?_
        rintro _ w20 ⟨rfl, F33, h53⟩
        have h54 := Fr.at F33 h50 (ApL.not (x := some bp0) (S := [some b1]) ⟨(Ap.symm (Src.ap' s1 (Lt.one (at_lt h2)) trivial)), trivial⟩ _ rfl)
        have h55 := Fr.at F33 h52 (ApL.not (x := some b2) (S := [some b1]) ⟨(Src.ap' s2 (Lt.one (at_lt h3)) trivial), trivial⟩ _ rfl)
        have F34 := Fr.step F32 F33 ⟨(In0.src s1 F4.size trivial), trivial⟩
        refine ⟨_, _, rfl, rfl, ⟨(by first | exact (by first | exact (ex_loadOne Try.underlying54 rfl rfl h55 (Lens.comp (Lens.all _ (ints .u32 (vset a2 x29 (vget a2 x29)).toList)) (Lens.vec c5 c6 (vget a2 x29)) rfl)) | (rw [← q19]; exact (ex_loadOne Try.underlying54 rfl rfl h55 (Lens.comp (Lens.all _ (ints .u32 (vset a2 x29 (vget a2 x29)).toList)) (Lens.vec c5 c6 (vget a2 x29)) rfl))) | (rw [← q20]; exact (ex_loadOne Try.underlying54 rfl rfl h55 (Lens.comp (Lens.all _ (ints .u32 (vset a2 x29 (vget a2 x29)).toList)) (Lens.vec c5 c6 (vget a2 x29)) rfl)))) | (rw [← q22]; exact (by first | exact (ex_loadOne Try.underlying54 rfl rfl h55 (Lens.comp (Lens.all _ (ints .u32 (vset a2 x29 (vget a2 x29)).toList)) (Lens.vec c5 c6 (vget a2 x29)) rfl)) | (rw [← q19]; exact (ex_loadOne Try.underlying54 rfl rfl h55 (Lens.comp (Lens.all _ (ints .u32 (vset a2 x29 (vget a2 x29)).toList)) (Lens.vec c5 c6 (vget a2 x29)) rfl))) | (rw [← q20]; exact (ex_loadOne Try.underlying54 rfl rfl h55 (Lens.comp (Lens.all _ (ints .u32 (vset a2 x29 (vget a2 x29)).toList)) (Lens.vec c5 c6 (vget a2 x29)) rfl)))))), trivial⟩, ?_⟩
        refine WD.batch (f' := 0) [18, 19] #[true, true, true, true, true, true, true, true, true, true, true, true, true, true, true, true, true, true, true, true] [0, 2, 3, 4, 5, 6, 7, 8, 9, 10, 14, 15, 65] rfl (E' := [(0, .pointer (some ⟨bp0, 0, none⟩)), (2, .pointer (some ⟨b1, 0, none⟩)), (3, .pointer (some ⟨b2, 0, none⟩)), (4, .int .u32 x21), (5, .int .u32 x22), (6, .int .u32 x23), (7, .int .u32 x24), (8, .int .u32 x25), (9, .int .u32 x26), (10, .int .u32 x27), (14, .int .u32 x31), (15, .int .u32 (wadd .u32 x37 x38)), (65, .int .i64 x29)]) (by kernel_rfl) ?_
        obtain ⟨x39, q24, hm⟩ := of_let hm
        rw [q24]
        refine WD.end_ (by kernel_rfl) ?_
        refine W.seq ?_
        refine W.region ?_
        refine WL.batch 1 [0, 2, 3, 4, 5, 6, 7, 8, 9, 10, 14, 15, 65, 103] (E' := [(0, .pointer (some ⟨bp0, 0, none⟩)), (2, .pointer (some ⟨b1, 0, none⟩)), (3, .pointer (some ⟨b2, 0, none⟩)), (4, .int .u32 x21), (5, .int .u32 x22), (6, .int .u32 x23), (7, .int .u32 x24), (8, .int .u32 x25), (9, .int .u32 x26), (10, .int .u32 x27), (14, .int .u32 x31), (15, .int .u32 x39), (65, .int .i64 x29), (103, .int .u32 x21)]) (by kernel_rfl) ?_
        obtain ⟨x40, q25, hm⟩ := of_bind hm
        refine WL.call rfl rfl rfl (ex_callI (args := [.int .u32 x21, .int .i64 (-2)]) rfl rfl rfl Try.call50) (bits_RotateLeft32_walk x21 (-2)  _   x40 q25) ?_
        rintro _ w21 ⟨rfl, F35⟩
        have h56 := Fr.at F35 h54 (ApL.not (x := some bp0) (S := []) trivial _ rfl)
        have h57 := Fr.at F35 h53 (ApL.not (x := some b1) (S := []) trivial _ rfl)
        have h58 := Fr.at F35 h55 (ApL.not (x := some b2) (S := []) trivial _ rfl)
        have F36 := Fr.step F34 F35 trivial
        refine ⟨_, _, rfl, rfl, ?_⟩
        refine WL.batch 1 [0, 2, 3, 4, 5, 6, 7, 8, 9, 10, 14, 15, 65, 104, 105] (E' := [(0, .pointer (some ⟨bp0, 0, none⟩)), (2, .pointer (some ⟨b1, 0, none⟩)), (3, .pointer (some ⟨b2, 0, none⟩)), (4, .int .u32 x21), (5, .int .u32 x22), (6, .int .u32 x23), (7, .int .u32 x24), (8, .int .u32 x25), (9, .int .u32 x26), (10, .int .u32 x27), (14, .int .u32 x31), (15, .int .u32 x39), (65, .int .i64 x29), (104, .int .u32 x40), (105, .int .u32 x21)]) (by kernel_rfl) ?_
        obtain ⟨x41, q26, hm⟩ := of_bind hm
        refine WL.call rfl rfl rfl (ex_callI (args := [.int .u32 x21, .int .i64 (-13)]) rfl rfl rfl Try.call50) (bits_RotateLeft32_walk x21 (-13)  _   x41 q26) ?_
        rintro _ w22 ⟨rfl, F37⟩
        have h59 := Fr.at F37 h56 (ApL.not (x := some bp0) (S := []) trivial _ rfl)
        have h60 := Fr.at F37 h57 (ApL.not (x := some b1) (S := []) trivial _ rfl)
        have h61 := Fr.at F37 h58 (ApL.not (x := some b2) (S := []) trivial _ rfl)
        have F38 := Fr.step F36 F37 trivial
        refine ⟨_, _, rfl, rfl, ?_⟩
        refine WL.batch 2 [0, 2, 3, 4, 5, 6, 7, 8, 9, 10, 14, 15, 65, 107, 108] (E' := [(0, .pointer (some ⟨bp0, 0, none⟩)), (2, .pointer (some ⟨b1, 0, none⟩)), (3, .pointer (some ⟨b2, 0, none⟩)), (4, .int .u32 x21), (5, .int .u32 x22), (6, .int .u32 x23), (7, .int .u32 x24), (8, .int .u32 x25), (9, .int .u32 x26), (10, .int .u32 x27), (14, .int .u32 x31), (15, .int .u32 x39), (65, .int .i64 x29), (107, .int .u32 (wxor .u32 x40 x41)), (108, .int .u32 x21)]) (by kernel_rfl) ?_
        obtain ⟨x42, q27, hm⟩ := of_let hm
        rw [q27]
        obtain ⟨x43, q28, hm⟩ := of_bind hm
        refine WL.call rfl rfl rfl (ex_callI (args := [.int .u32 x21, .int .i64 (-22)]) rfl rfl rfl Try.call50) (bits_RotateLeft32_walk x21 (-22)  _   x43 q28) ?_
        rintro _ w23 ⟨rfl, F39⟩
        have h62 := Fr.at F39 h59 (ApL.not (x := some bp0) (S := []) trivial _ rfl)
        have h63 := Fr.at F39 h60 (ApL.not (x := some b1) (S := []) trivial _ rfl)
        have h64 := Fr.at F39 h61 (ApL.not (x := some b2) (S := []) trivial _ rfl)
        have F40 := Fr.step F38 F39 trivial
        refine ⟨_, _, rfl, rfl, ?_⟩
        refine WL.batch 4 [0, 2, 3, 4, 5, 6, 7, 8, 9, 10, 15, 16, 65] (E' := [(0, .pointer (some ⟨bp0, 0, none⟩)), (2, .pointer (some ⟨b1, 0, none⟩)), (3, .pointer (some ⟨b2, 0, none⟩)), (4, .int .u32 x21), (5, .int .u32 x22), (6, .int .u32 x23), (7, .int .u32 x24), (8, .int .u32 x25), (9, .int .u32 x26), (10, .int .u32 x27), (15, .int .u32 x39), (16, .int .u32 (wadd .u32 (wxor .u32 x42 x43) x31)), (65, .int .i64 x29)]) (by kernel_rfl) ?_
        obtain ⟨x44, q29, hm⟩ := of_let hm
        rw [q29]
        refine WL.nil ?_
        refine W.region ?_
        refine WL.batch 20 [0, 2, 3, 4, 5, 6, 7, 8, 9, 10, 11, 65] (E' := [(0, .pointer (some ⟨bp0, 0, none⟩)), (2, .pointer (some ⟨b1, 0, none⟩)), (3, .pointer (some ⟨b2, 0, none⟩)), (4, .int .u32 (wadd .u32 x39 x44)), (5, .int .u32 x21), (6, .int .u32 x22), (7, .int .u32 x23), (8, .int .u32 (wadd .u32 x24 x39)), (9, .int .u32 x25), (10, .int .u32 x26), (11, .int .u32 x27), (65, .int .i64 x29)]) (by kernel_rfl) ?_
        obtain ⟨x45, q30, hm⟩ := of_let hm
        rw [q30]
        obtain ⟨x46, q31, hm⟩ := of_let hm
        rw [q31]
        refine WL.nil ?_
        refine W.region ?_
        refine WL.batch 2 [0, 2, 3, 4, 5, 6, 7, 8, 9, 10, 11, 65] (E' := [(0, .pointer (some ⟨bp0, 0, none⟩)), (2, .pointer (some ⟨b1, 0, none⟩)), (3, .pointer (some ⟨b2, 0, none⟩)), (4, .int .u32 x45), (5, .int .u32 x21), (6, .int .u32 x22), (7, .int .u32 x23), (8, .int .u32 x46), (9, .int .u32 x25), (10, .int .u32 x26), (11, .int .u32 x27), (65, .int .i64 (wadd .i64 x29 1))]) (by kernel_rfl) ?_
        obtain ⟨x47, q32, hm⟩ := of_let hm
        rw [q32]
        refine WL.nil ?_
        exact ⟨x45, x21, x22, x23, x46, x25, x26, x27, x47, a8, ⟨rfl, rfl, rfl, rfl, rfl, rfl, rfl, rfl, rfl, rfl, rfl, rfl, trivial⟩, h62, h63, h64, F40, hm⟩
      · refine W.condF _ rfl c4 ?_
        refine W.exit ?_
        exact rest1 _ _ ⟨x21, x22, x23, x24, x25, x26, x27, x28, a7, ⟨rfl, rfl, rfl, rfl, rfl, rfl, rfl, rfl, rfl, trivial⟩, h38, h39, h40, F24, (Option.some.inj hm)⟩

/- (*cautery/sha.Hash).Write -/
theorem sha_Hash_Write_walk (k : Nat) (p0o_0 : Vector Int 8) (p0o_1 : Vector Int 64) (p0o_2 : Int) (p0o_3 : Int) (p1 : List Int) (bp0 : Nat) (Ap1 : Option Addr) (np1 : Nat) (w : World) (hp0 : w.heap[bp0]? = some (.cells (ints .u32 p0o_0.toList ++ (ints .u8 p0o_1.toList ++ ([Value.int .i64 p0o_2] ++ ([Value.int .u64 p0o_3])))).toArray 76 (0, 0))) (hp1 : Rd w 1 Ap1 p1.length np1 (ints .u8 p1)) (ap_Ep0_Ep1 : Ap (some bp0) (rblk Ap1 p1.length)) (r0 : Vector Int 8) (r1 : Vector Int 64) (r2 : Int) (r3 : Int) (hm : sha_Hash_Write.f k p0o_0 p0o_1 p0o_2 p0o_3 p1 = some (r0, r1, r2, r3)) :
    Calls Try.prog 38 #[.pointer (some ⟨bp0, 0, none⟩), .slice Ap1 p1.length np1] w fun e w' => e = .returned (.tuple #[]) ∧ Fr [some bp0] w w' ∧ w'.heap[bp0]? = some (.cells (ints .u32 r0.toList ++ (ints .u8 r1.toList ++ ([Value.int .i64 r2] ++ ([Value.int .u64 r3])))).toArray 76 (0, 0)) := by
  have F0 := Fr.refl [some bp0] w
  unfold sha_Hash_Write.f at hm
  refine W.enter (args := [.pointer (some ⟨bp0, 0, none⟩), .slice Ap1 p1.length np1]) Try.func38 rfl (n := 48) rfl rfl ?_
  refine W.seq ?_
  refine W.seq ?_
  refine W.region ?_
  refine WL.batch 2 [0, 1, 6] (E' := [(0, .pointer (some ⟨bp0, 0, none⟩)), (1, .slice Ap1 p1.length np1), (6, .bool false)]) (by kernel_rfl) ?_
  refine WL.nil ?_
  refine W.condF _ rfl rfl ?_
  refine W.skip ?_
  refine W.seq ?_
  refine W.region ?_
  refine WL.batch 3 [0, 1, 7, 9] (E' := [(0, .pointer (some ⟨bp0, 0, none⟩)), (1, .slice Ap1 p1.length np1), (7, .pointer (some ⟨bp0, 0, none⟩)), (9, .pointer (some ⟨bp0, 73, none⟩))]) (by kernel_rfl) ?_
  refine WL.value (.int .u64 p0o_3) rfl rfl rfl (ex_loadOne Try.underlying52 rfl rfl hp0 (Lens.skip (ivl _ _) (Lens.skip (ivl _ _) (Lens.skip rfl (Lens.all _ ([Value.int .u64 p0o_3])) rfl) rfl) rfl)) rfl ?_
  refine WL.batch 6 [0, 1, 14, 16] (E' := [(0, .pointer (some ⟨bp0, 0, none⟩)), (1, .slice Ap1 p1.length np1), (14, .int .u64 (wadd .u64 p0o_3 (IntKind.wrap .u64 (p1.length : Int)))), (16, .pointer (some ⟨bp0, 73, none⟩))]) (by kernel_rfl) ?_
  obtain ⟨x1, q1, hm⟩ := of_let hm
  rw [q1]
  refine WL.opS rfl rfl rfl (ex_storeObj rfl rfl Try.sizeOf52 hp0 (Lens.skip (ivl _ _) (Lens.skip (ivl _ _) (Lens.skip rfl (Lens.all _ ([Value.int .u64 x1])) rfl) rfl) rfl) rfl rfl rfl (one_sing rfl)) ?_
  rintro w1 ⟨F1, h1⟩
  have h2 := (hp1).fr F1 ⟨(Ap.symm ap_Ep0_Ep1), trivial⟩
  have F2 := Fr.step F0 F1 ⟨(In0.mem (by simp)), trivial⟩
  refine ⟨_, rfl, ?_⟩
  refine WL.nil ?_
  refine W.block ?_
  refine W.loop (fun j1 E w2 => ∃ (l1 : List Int) (a1 : Vector Int 8) (a2 : Vector Int 64) (x2 : Int) (x3 : Int) (A1 : Option Addr) (n1 : Nat), Env.sub E [(0, .pointer (some ⟨bp0, 0, none⟩)), (1, .slice A1 l1.length n1)] ∧ w2.heap[bp0]? = some (.cells (ints .u32 a1.toList ++ (ints .u8 a2.toList ++ ([Value.int .i64 x2] ++ ([Value.int .u64 x3])))).toArray 76 (0, 0)) ∧ Rd w2 1 Ap1 p1.length np1 (ints .u8 p1) ∧ Rd w2 1 A1 l1.length n1 (ints .u8 l1) ∧ Fr [some bp0] w w2 ∧ Src (rblk A1 l1.length) w.heap.size [rblk Ap1 p1.length] ∧ Ap (rblk A1 l1.length) (some bp0) ∧ sha_Hash_Write.l0 k j1 l1 a1 a2 x2 x3 = some (r0, r1, r2, r3)) ?_ k ?_ ?_
  · rintro _ _ ⟨_, _, _, _, _, _, _, _, _, _, _, _, _, _, hz⟩
    exact absurd hz (by simp [sha_Hash_Write.l0])
  · exact ⟨p1, p0o_0, p0o_1, p0o_2, x1, Ap1, np1, ⟨rfl, rfl, trivial⟩, h1, h2, h2, F2, (Src.self (by simp)), (Ap.symm ap_Ep0_Ep1), hm⟩
  · rintro j1 _ w2 ⟨l1, a1, a2, x2, x3, A1, n1, hE, h3, h4, h5, F3, s1, ap1, hm⟩
    rw [sha_Hash_Write.l0] at hm
    refine W.sub ?_ hE
    refine W.seq ?_
    refine W.seq ?_
    refine W.region ?_
    refine WL.batch 3 [0, 1, 19] (E' := [(0, .pointer (some ⟨bp0, 0, none⟩)), (1, .slice A1 l1.length n1), (19, .bool (decide ((l1.length : Int) > (0 : Int))))]) (by kernel_rfl) ?_
    refine WL.nil ?_
    rcases of_cond hm with ⟨c1, hm⟩ | ⟨c1, hm⟩
    · refine W.condT _ rfl c1 ?_
      refine W.skip ?_
      refine W.block ?_
      refine W.seq ?_
      refine W.regionDw (N := 11) Try_mixed rfl ?_
      intro w3 F4
      have h6 := Fr.at F4 h3 (ApL.not (x := some bp0) (S := []) trivial _ rfl)
      have h7 := (h4).fr F4 trivial
      have h8 := (h5).fr F4 trivial
      have F5 := Fr.step F3 F4 trivial
      refine WD.batch (f' := 4) [0, 1, 2, 3, 4, 5, 8] #[true, true, true, true, true, true, false, false, true, false, false] [0, 1, 22, 25, 28] rfl (E' := [(0, .pointer (some ⟨bp0, 0, none⟩)), (1, .slice A1 l1.length n1), (22, .pointer (some ⟨bp0, 8, none⟩)), (25, .pointer (some ⟨bp0, 72, none⟩)), (28, .slice A1 l1.length n1)]) (by kernel_rfl) ?_
      refine WD.load 6 [9] [7, 9, 10] (.int .i64 x2) rfl (by kernel_rfl) rfl rfl rfl (ex_loadOne Try.underlying3 rfl rfl h6 (Lens.skip (ivl _ _) (Lens.skip (ivl _ _) (Lens.head _ ([Value.int .i64 x2]) _) rfl) rfl)) ?_
      obtain ⟨⟨c2, c3, c4⟩, hm⟩ := of_guard hm
      obtain ⟨l2, q2, hm⟩ := of_let hm
      refine WD.opU 7 rfl (by kernel_rfl) rfl rfl (ex_sliceArrU (k1 := .i64) (k2 := .i64) (k := .u8) (v := a2) Try.underlying74 Try.sizeOf5 rfl (.inl rfl) (.inr ⟨rfl, rfl⟩) ⟨c2, c3, c4⟩ rfl h6 (Lens.skip (ivl _ _) (Lens.head _ (ints .u8 a2.toList) _) rfl) q2) ?_
      rintro _ ⟨o1, n2, rfl, h9, q3, s2⟩
      refine ⟨_, rfl, ?_⟩
      obtain ⟨a3, q4, hm⟩ := of_let hm
      refine WD.op 9 (by kernel_rfl) rfl rfl rfl rfl (ex_copyArrI (k := .u8) (v := a2) Try.underlying23 Try.sizeOf5 h6 rfl rfl h8 q3 ⟨c2, c3, c4⟩ q2 q4 (Lens.skip (ivl _ _) (Lens.head _ (ints .u8 a3.toList) _) rfl)) ?_
      rintro _ w4 ⟨rfl, F6, h10⟩
      have h11 := (h7).fr F6 ⟨(Ap.symm ap_Ep0_Ep1), trivial⟩
      have h12 := (h8).fr F6 ⟨ap1, trivial⟩
      have F7 := Fr.step F5 F6 ⟨(In0.mem (by simp)), trivial⟩
      refine ⟨_, rfl, trivial, ?_⟩
      refine WD.batch (f' := 0) [10] #[true, true, true, true, true, true, true, true, true, true, true] [0, 1, 4] rfl (E' := [(0, .pointer (some ⟨bp0, 0, none⟩)), (1, .slice A1 l1.length n1), (4, .int .i64 ((Nat.min l1.length l2.length : Nat) : Int))]) (by kernel_rfl) ?_
      obtain ⟨x4, q5, hm⟩ := of_let hm
      rw [q5]
      refine WD.end_ (by kernel_rfl) ?_
      refine W.seq ?_
      refine W.region ?_
      refine WL.batch 3 [0, 1, 4, 30, 32] (E' := [(0, .pointer (some ⟨bp0, 0, none⟩)), (1, .slice A1 l1.length n1), (4, .int .i64 x4), (30, .pointer (some ⟨bp0, 0, none⟩)), (32, .pointer (some ⟨bp0, 72, none⟩))]) (by kernel_rfl) ?_
      refine WL.value (.int .i64 x2) rfl rfl rfl (ex_loadOne Try.underlying3 rfl rfl h10 (Lens.skip (ivl _ _) (Lens.skip (ivl _ _) (Lens.head _ ([Value.int .i64 x2]) _) rfl) rfl)) rfl ?_
      refine WL.batch 4 [0, 1, 4, 35, 37] (E' := [(0, .pointer (some ⟨bp0, 0, none⟩)), (1, .slice A1 l1.length n1), (4, .int .i64 x4), (35, .int .i64 (wadd .i64 x2 x4)), (37, .pointer (some ⟨bp0, 72, none⟩))]) (by kernel_rfl) ?_
      obtain ⟨x5, q6, hm⟩ := of_let hm
      rw [q6]
      refine WL.opS rfl rfl rfl (ex_storeObj rfl rfl Try.sizeOf3 h10 (Lens.skip (ivl _ _) (Lens.skip (ivl _ _) (Lens.head _ ([Value.int .i64 x5]) _) rfl) rfl) rfl rfl rfl (one_sing rfl)) ?_
      rintro w5 ⟨F8, h13⟩
      have h14 := (h11).fr F8 ⟨(Ap.symm ap_Ep0_Ep1), trivial⟩
      have h15 := (h12).fr F8 ⟨ap1, trivial⟩
      have F9 := Fr.step F7 F8 ⟨(In0.mem (by simp)), trivial⟩
      refine ⟨_, rfl, ?_⟩
      refine WL.nil ?_
      refine W.seq ?_
      refine W.region ?_
      refine WL.batch 2 [0, 38, 39] (E' := [(0, .pointer (some ⟨bp0, 0, none⟩)), (38, .slice A1 l1.length n1), (39, .int .i64 x4)]) (by kernel_rfl) ?_
      obtain ⟨⟨c5, c6, c7⟩, hm⟩ := of_guard hm
      obtain ⟨l3, q7, hm⟩ := of_let hm
      refine WL.opU rfl rfl rfl (ex_sliceU (k1 := .i64) (k2 := .i64) (k := .u8) Try.underlying23 Try.sizeOf5 rfl (.inl rfl) (.inr ⟨rfl, rfl⟩) ⟨c5, c6, c7⟩ h15 q7) ?_
      rintro _ ⟨A2, n3, rfl, h16, s3⟩
      refine ⟨_, rfl, ?_⟩
      refine WL.batch 1 [0, 1] (E' := [(0, .pointer (some ⟨bp0, 0, none⟩)), (1, .slice A2 l3.length n3)]) (by kernel_rfl) ?_
      refine WL.nil ?_
      refine W.seq ?_
      refine W.region ?_
      refine WL.batch 3 [0, 1, 43] (E' := [(0, .pointer (some ⟨bp0, 0, none⟩)), (1, .slice A2 l3.length n3), (43, .pointer (some ⟨bp0, 72, none⟩))]) (by kernel_rfl) ?_
      refine WL.value (.int .i64 x5) rfl rfl rfl (ex_loadOne Try.underlying3 rfl rfl h13 (Lens.skip (ivl _ _) (Lens.skip (ivl _ _) (Lens.head _ ([Value.int .i64 x5]) _) rfl) rfl)) rfl ?_
      refine WL.batch 1 [0, 1, 45] (E' := [(0, .pointer (some ⟨bp0, 0, none⟩)), (1, .slice A2 l3.length n3), (45, .bool (x5 == (64 : Int)))]) (by kernel_rfl) ?_
      refine WL.nil ?_
      rcases of_cond hm with ⟨c8, hm⟩ | ⟨c8, hm⟩
      · refine W.condT _ rfl c8 ?_
        refine W.region ?_
        refine WL.batch 1 [0, 1, 46] (E' := [(0, .pointer (some ⟨bp0, 0, none⟩)), (1, .slice A2 l3.length n3), (46, .pointer (some ⟨bp0, 0, none⟩))]) (by kernel_rfl) ?_
        obtain ⟨⟨a4, a5, x6, x7⟩, q8, hm⟩ := of_bind hm
        refine WL.call rfl rfl rfl (ex_callI (args := [.pointer (some ⟨bp0, 0, none⟩)]) rfl rfl rfl Try.call45) (sha_Hash_take_walk k a1 a3 x5 x3 bp0 _ h13  a4 a5 x6 x7 q8) ?_
        rintro _ w6 ⟨rfl, F10, h17⟩
        have h18 := (h14).fr F10 ⟨(Ap.symm ap_Ep0_Ep1), trivial⟩
        have h19 := (h15).fr F10 ⟨ap1, trivial⟩
        have h20 := (h16).fr F10 ⟨(Src.ap' s3 (Lt.one (at_lt h13)) ⟨ap1, trivial⟩), trivial⟩
        have F11 := Fr.step F9 F10 ⟨(In0.mem (by simp)), trivial⟩
        refine ⟨_, _, rfl, rfl, ?_⟩
        refine WL.nil ?_
        exact ⟨l3, a4, a5, x6, x7, A2, n3, ⟨rfl, rfl, trivial⟩, h17, h18, h20, F11, (Src.trans' s3 F9.size ⟨(Src.trans' s1 (Nat.le_refl _) ⟨(Src.self (by simp)), trivial⟩), trivial⟩), (Src.ap' s3 (Lt.one (at_lt h13)) ⟨ap1, trivial⟩), hm⟩
      · refine W.condF _ rfl c8 ?_
        refine W.skip ?_
        exact ⟨l3, a1, a3, x5, x3, A2, n3, ⟨rfl, rfl, trivial⟩, h13, h14, h16, F9, (Src.trans' s3 F9.size ⟨(Src.trans' s1 (Nat.le_refl _) ⟨(Src.self (by simp)), trivial⟩), trivial⟩), (Src.ap' s3 (Lt.one (at_lt h13)) ⟨ap1, trivial⟩), hm⟩
    · refine W.condF _ rfl c1 ?_
      refine W.exit ?_
      obtain ⟨q0a, q0b⟩ := Prod.mk.inj (Option.some.inj hm)
      obtain ⟨q1a, q1b⟩ := Prod.mk.inj (q0b)
      obtain ⟨q2a, q2b⟩ := Prod.mk.inj (q1b)
      subst q0a
      subst q1a
      subst q2a
      subst q2b
      exact ⟨_, rfl, ⟨rfl, F3, h3⟩⟩

/- (*cautery/sha.Hash).Sum -/
theorem sha_Hash_Sum_walk (k : Nat) (p0o_0 : Vector Int 8) (p0o_1 : Vector Int 64) (p0o_2 : Int) (p0o_3 : Int) (bp0 : Nat) (w : World) (hp0 : w.heap[bp0]? = some (.cells (ints .u32 p0o_0.toList ++ (ints .u8 p0o_1.toList ++ ([Value.int .i64 p0o_2] ++ ([Value.int .u64 p0o_3])))).toArray 76 (0, 0))) (r0 : Vector Int 32) (hm : sha_Hash_Sum.f k p0o_0 p0o_1 p0o_2 p0o_3 = some r0) :
    Calls Try.prog 39 #[.pointer (some ⟨bp0, 0, none⟩)] w fun e w' => e = .returned (.agg (ints .u8 r0.toList).toArray) ∧ Fr [] w w' := by
  have F0 := Fr.refl [] w
  unfold sha_Hash_Sum.f at hm
  refine W.enter (args := [.pointer (some ⟨bp0, 0, none⟩)]) Try.func39 rfl (n := 54) rfl rfl ?_
  refine W.seq ?_
  refine W.region ?_
  refine WL.op rfl rfl rfl (ex_alloc' (z := .agg (ints .u8 (Vector.replicate 32 (0 : Int)).toList).toArray) (cs := ints .u8 (Vector.replicate 32 (0 : Int)).toList) (fun _ => by kernel_rfl) (by kernel_rfl)) ?_
  rintro _ w1 ⟨b1, rfl, N1⟩
  have h1 := N1.at_
  have s1 := Src.new [] (Ge.one N1.ge)
  have h2 := Fr.at N1.fr hp0 (ApL.not (x := some bp0) (S := []) trivial _ rfl)
  have F1 := Fr.step F0 N1.fr trivial
  refine ⟨_, rfl, ?_⟩
  refine WL.nil ?_
  refine W.seq ?_
  refine W.seq ?_
  refine W.region ?_
  refine WL.batch 2 [0, 2, 9] (E' := [(0, .pointer (some ⟨bp0, 0, none⟩)), (2, .pointer (some ⟨b1, 0, none⟩)), (9, .bool false)]) (by kernel_rfl) ?_
  refine WL.nil ?_
  refine W.condF _ rfl rfl ?_
  refine W.skip ?_
  refine W.seq ?_
  refine W.region ?_
  refine WL.batch 2 [0, 2, 12] (E' := [(0, .pointer (some ⟨bp0, 0, none⟩)), (2, .pointer (some ⟨b1, 0, none⟩)), (12, .pointer (some ⟨bp0, 0, none⟩))]) (by kernel_rfl) ?_
  refine WL.value (.agg (ints .u32 p0o_0.toList ++ (ints .u8 p0o_1.toList ++ ([Value.int .i64 p0o_2] ++ ([Value.int .u64 p0o_3])))).toArray) rfl rfl rfl (ex_loadAgg Try.underlying76 rfl Try.sizeOf76 (len_app (ivl _ _) (len_app (ivl _ _) (len_app rfl rfl rfl) rfl) rfl) rfl h2 (Lens.all _ (ints .u32 p0o_0.toList ++ (ints .u8 p0o_1.toList ++ ([Value.int .i64 p0o_2] ++ ([Value.int .u64 p0o_3])))))) rfl ?_
  refine WL.op rfl rfl rfl (ex_alloc' (z := .agg (ints .u32 (Vector.replicate 8 (0 : Int)).toList ++ (ints .u8 (Vector.replicate 64 (0 : Int)).toList ++ ([Value.int .i64 0] ++ ([Value.int .u64 0])))).toArray) (cs := ints .u32 (Vector.replicate 8 (0 : Int)).toList ++ (ints .u8 (Vector.replicate 64 (0 : Int)).toList ++ ([Value.int .i64 0] ++ ([Value.int .u64 0])))) (fun _ => by kernel_rfl) (by kernel_rfl)) ?_
  rintro _ w2 ⟨b2, rfl, N2⟩
  have h3 := N2.at_
  have s2 := Src.new [] (Ge.one N2.ge)
  have h4 := Fr.at N2.fr h2 (ApL.not (x := some bp0) (S := []) trivial _ rfl)
  have h5 := Fr.at N2.fr h1 (ApL.not (x := some b1) (S := []) trivial _ rfl)
  have F2 := Fr.step F1 N2.fr trivial
  refine ⟨_, rfl, ?_⟩
  refine WL.opS rfl rfl rfl (ex_storeObj rfl rfl Try.sizeOf76 h3 (Lens.all _ (ints .u32 p0o_0.toList ++ (ints .u8 p0o_1.toList ++ ([Value.int .i64 p0o_2] ++ ([Value.int .u64 p0o_3]))))) (len_app (ivl _ _) (len_app (ivl _ _) (len_app rfl rfl rfl) rfl) rfl) (len_app (ivl _ _) (len_app (ivl _ _) (len_app rfl rfl rfl) rfl) rfl) rfl (one_app (ints_one _ _) (one_app (ints_one _ _) (one_app (one_sing rfl) (one_sing rfl))))) ?_
  rintro w3 ⟨F3, h6⟩
  have h7 := Fr.at F3 h4 (ApL.not (x := some bp0) (S := [some b2]) ⟨(Ap.symm (Src.ap' s2 (Lt.one (at_lt h2)) trivial)), trivial⟩ _ rfl)
  have h8 := Fr.at F3 h5 (ApL.not (x := some b1) (S := [some b2]) ⟨(Ap.symm (Src.ap' s2 (Lt.one (at_lt h1)) trivial)), trivial⟩ _ rfl)
  have F4 := Fr.step F2 F3 ⟨(In0.src s2 F1.size trivial), trivial⟩
  refine ⟨_, rfl, ?_⟩
  refine WL.nil ?_
  refine W.seq ?_
  refine W.region ?_
  refine WL.batch 3 [2, 3, 16] (E' := [(2, .pointer (some ⟨b1, 0, none⟩)), (3, .pointer (some ⟨b2, 0, none⟩)), (16, .pointer (some ⟨bp0, 73, none⟩))]) (by kernel_rfl) ?_
  refine WL.value (.int .u64 p0o_3) rfl rfl rfl (ex_loadOne Try.underlying52 rfl rfl h7 (Lens.skip (ivl _ _) (Lens.skip (ivl _ _) (Lens.skip rfl (Lens.all _ ([Value.int .u64 p0o_3])) rfl) rfl) rfl)) rfl ?_
  refine WL.batch 2 [2, 3, 4] (E' := [(2, .pointer (some ⟨b1, 0, none⟩)), (3, .pointer (some ⟨b2, 0, none⟩)), (4, .int .u64 (wmul .u64 p0o_3 8))]) (by kernel_rfl) ?_
  obtain ⟨x1, q1, hm⟩ := of_let hm
  rw [q1]
  refine WL.nil ?_
  refine W.seq ?_
  refine W.region ?_
  refine WL.op rfl rfl rfl (ex_buildSliceI (T := 5) (k := .u8) (l2 := [128]) rfl (fun _ => by kernel_rfl) rfl rfl) ?_
  rintro _ w4 ⟨A1, n1, rfl, h9, F5, s3⟩
  have h10 := Fr.at F5 h7 (ApL.not (x := some bp0) (S := []) trivial _ rfl)
  have h11 := Fr.at F5 h8 (ApL.not (x := some b1) (S := []) trivial _ rfl)
  have h12 := Fr.at F5 h6 (ApL.not (x := some b2) (S := []) trivial _ rfl)
  have F6 := Fr.step F4 F5 trivial
  refine ⟨_, rfl, ?_⟩
  obtain ⟨⟨a1, a2, x2, x3⟩, q2, hm⟩ := of_bind hm
  refine WL.call rfl rfl rfl (ex_callI (args := [.pointer (some ⟨b2, 0, none⟩), .slice A1 [128].length n1]) rfl rfl rfl Try.call38) (sha_Hash_Write_walk k p0o_0 p0o_1 p0o_2 p0o_3 [128] b2 A1 n1 _ h12 (h9).rd (Ap.symm (Src.ap' s3 (Lt.one (at_lt h6)) trivial)) a1 a2 x2 x3 q2) ?_
  rintro _ w5 ⟨rfl, F7, h13⟩
  have h14 := Fr.at F7 h10 (ApL.not (x := some bp0) (S := [some b2]) ⟨(Ap.symm (Src.ap' s2 (Lt.one (at_lt h2)) trivial)), trivial⟩ _ rfl)
  have h15 := Fr.at F7 h11 (ApL.not (x := some b1) (S := [some b2]) ⟨(Ap.symm (Src.ap' s2 (Lt.one (at_lt h1)) trivial)), trivial⟩ _ rfl)
  have h16 := (h9).fr F7 ⟨(Src.ap' s3 (Lt.one (at_lt h6)) trivial), trivial⟩
  have F8 := Fr.step F6 F7 ⟨(In0.src s2 F1.size trivial), trivial⟩
  refine ⟨_, _, rfl, rfl, ?_⟩
  refine WL.nil ?_
  obtain ⟨ex1, hm1, hm2⟩ := of_bind hm
  refine W.join1 (fun E w6 => ∃ (a3 : Vector Int 8) (a4 : Vector Int 64) (x4 : Int) (x5 : Int), Env.sub E [(2, .pointer (some ⟨b1, 0, none⟩)), (3, .pointer (some ⟨b2, 0, none⟩)), (4, .int .u64 x1)] ∧ w6.heap[bp0]? = some (.cells (ints .u32 p0o_0.toList ++ (ints .u8 p0o_1.toList ++ ([Value.int .i64 p0o_2] ++ ([Value.int .u64 p0o_3])))).toArray 76 (0, 0)) ∧ w6.heap[b1]? = some (.cells (ints .u8 (Vector.replicate 32 (0 : Int)).toList).toArray 22 (0, 0)) ∧ w6.heap[b2]? = some (.cells (ints .u32 a3.toList ++ (ints .u8 a4.toList ++ ([Value.int .i64 x4] ++ ([Value.int .u64 x5])))).toArray 76 (0, 0)) ∧ Own w6 5 1 A1 [128].length n1 (ints .u8 [128]) ∧ Fr [] w w6 ∧ (a3, a4, x4, x5) = ex1) ?_ (fun rest1 => ?_)
  · rintro _ w6 ⟨a3, a4, x4, x5, hE, h17, h18, h19, h20, F9, rfl⟩
    replace hm := hm2
    clear hm1
    refine W.sub ?_ hE
    refine W.seq ?_
    refine W.seq ?_
    refine W.region ?_
    refine WL.batch 1 [2, 3, 4, 5] (E' := [(2, .pointer (some ⟨b1, 0, none⟩)), (3, .pointer (some ⟨b2, 0, none⟩)), (4, .int .u64 x1), (5, .int .i64 56)]) (by kernel_rfl) ?_
    refine WL.nil ?_
    obtain ⟨ex2, hm3, hm4⟩ := of_bind hm
    refine W.joinN (fun E w7 => ∃ (a5 : Vector Int 8) (a6 : Vector Int 64) (x6 : Int) (x7 : Int), Env.sub E [(2, .pointer (some ⟨b1, 0, none⟩)), (3, .pointer (some ⟨b2, 0, none⟩))] ∧ w7.heap[bp0]? = some (.cells (ints .u32 p0o_0.toList ++ (ints .u8 p0o_1.toList ++ ([Value.int .i64 p0o_2] ++ ([Value.int .u64 p0o_3])))).toArray 76 (0, 0)) ∧ w7.heap[b1]? = some (.cells (ints .u8 (Vector.replicate 32 (0 : Int)).toList).toArray 22 (0, 0)) ∧ w7.heap[b2]? = some (.cells (ints .u32 a5.toList ++ (ints .u8 a6.toList ++ ([Value.int .i64 x6] ++ ([Value.int .u64 x7])))).toArray 76 (0, 0)) ∧ Own w7 5 1 A1 [128].length n1 (ints .u8 [128]) ∧ Fr [] w w7 ∧ (a5, a6, x6, x7) = ex2) ?_ (fun rest2 => ?_)
    · rintro _ w7 ⟨a5, a6, x6, x7, hE, h21, h22, h23, h24, F10, rfl⟩
      replace hm := hm4
      clear hm3
      refine W.sub ?_ hE
      refine W.seq ?_
      refine W.region ?_
      refine WL.op rfl rfl rfl (ex_alloc' (z := .agg (ints .u8 (Vector.replicate 32 (0 : Int)).toList).toArray) (cs := ints .u8 (Vector.replicate 32 (0 : Int)).toList) (fun _ => by kernel_rfl) (by kernel_rfl)) ?_
      rintro _ w8 ⟨b3, rfl, N3⟩
      have h25 := N3.at_
      have s4 := Src.new [] (Ge.one N3.ge)
      have h26 := Fr.at N3.fr h21 (ApL.not (x := some bp0) (S := []) trivial _ rfl)
      have h27 := Fr.at N3.fr h22 (ApL.not (x := some b1) (S := []) trivial _ rfl)
      have h28 := Fr.at N3.fr h23 (ApL.not (x := some b2) (S := []) trivial _ rfl)
      have h29 := (h24).fr N3.fr trivial
      have F11 := Fr.step F10 N3.fr trivial
      refine ⟨_, rfl, ?_⟩
      refine WL.nil ?_
      refine W.seq ?_
      refine W.seq ?_
      refine W.region ?_
      refine WL.batch 1 [2, 3, 6, 36] (E' := [(2, .pointer (some ⟨b1, 0, none⟩)), (3, .pointer (some ⟨b2, 0, none⟩)), (6, .pointer (some ⟨b3, 0, none⟩)), (36, .int .i64 0)]) (by kernel_rfl) ?_
      refine WL.nil ?_
      obtain ⟨ex3, hm5, hm6⟩ := of_bind hm
      refine W.joinN (fun E w9 => ∃ (a7 : Vector Int 32), Env.sub E [(2, .pointer (some ⟨b1, 0, none⟩)), (6, .pointer (some ⟨b3, 0, none⟩))] ∧ w9.heap[bp0]? = some (.cells (ints .u32 p0o_0.toList ++ (ints .u8 p0o_1.toList ++ ([Value.int .i64 p0o_2] ++ ([Value.int .u64 p0o_3])))).toArray 76 (0, 0)) ∧ w9.heap[b1]? = some (.cells (ints .u8 (Vector.replicate 32 (0 : Int)).toList).toArray 22 (0, 0)) ∧ w9.heap[b2]? = some (.cells (ints .u32 a5.toList ++ (ints .u8 a6.toList ++ ([Value.int .i64 x6] ++ ([Value.int .u64 x7])))).toArray 76 (0, 0)) ∧ Own w9 5 1 A1 [128].length n1 (ints .u8 [128]) ∧ w9.heap[b3]? = some (.cells (ints .u8 a7.toList).toArray 22 (0, 0)) ∧ Fr [] w w9 ∧ a7 = ex3) ?_ (fun rest3 => ?_)
      · rintro _ w9 ⟨a7, hE, h30, h31, h32, h33, h34, F12, rfl⟩
        replace hm := hm6
        clear hm5
        refine W.sub ?_ hE
        refine W.seq ?_
        refine W.region ?_
        refine WL.value (.agg (ints .u8 a7.toList).toArray) rfl rfl rfl (ex_loadAgg Try.underlying22 rfl Try.sizeOf22 (ivl _ _) rfl h34 (Lens.all _ (ints .u8 a7.toList))) rfl ?_
        refine WL.opS rfl rfl rfl (ex_storeObj rfl rfl Try.sizeOf22 h31 (Lens.all _ (ints .u8 a7.toList)) (ivl _ _) (ivl _ _) rfl (ints_one _ _)) ?_
        rintro w10 ⟨F13, h35⟩
        have h36 := Fr.at F13 h30 (ApL.not (x := some bp0) (S := [some b1]) ⟨(Ap.symm (Src.ap' s1 (Lt.one (at_lt hp0)) trivial)), trivial⟩ _ rfl)
        have h37 := Fr.at F13 h32 (ApL.not (x := some b2) (S := [some b1]) ⟨(Src.ap' s2 (Lt.one (at_lt h1)) trivial), trivial⟩ _ rfl)
        have h38 := (h33).fr F13 ⟨(Src.ap' s3 (Lt.one (at_lt h8)) trivial), trivial⟩
        have h39 := Fr.at F13 h34 (ApL.not (x := some b3) (S := [some b1]) ⟨(Src.ap' s4 (Lt.one (at_lt h22)) trivial), trivial⟩ _ rfl)
        have F14 := Fr.step F12 F13 ⟨(In0.src s1 (Nat.le_refl _) trivial), trivial⟩
        refine ⟨_, rfl, ?_⟩
        refine WL.nil ?_
        refine W.ret ?_
        obtain rfl := Option.some.inj hm
        exact ⟨_, ⟨_, _, _, rfl, rfl, (loadVar_aggN Try.underlying22 rfl Try.sizeOf22 (ivl _ _) h35 (Lens.all _ (ints .u8 a7.toList))), rfl⟩, ⟨rfl, F14⟩⟩
      · replace hm := hm5
        clear hm5
        refine W.block ?_
        refine W.loop (fun j1 E w11 => ∃ (x8 : Int) (a8 : Vector Int 32), Env.sub E [(2, .pointer (some ⟨b1, 0, none⟩)), (3, .pointer (some ⟨b2, 0, none⟩)), (6, .pointer (some ⟨b3, 0, none⟩)), (36, .int .i64 x8)] ∧ w11.heap[bp0]? = some (.cells (ints .u32 p0o_0.toList ++ (ints .u8 p0o_1.toList ++ ([Value.int .i64 p0o_2] ++ ([Value.int .u64 p0o_3])))).toArray 76 (0, 0)) ∧ w11.heap[b1]? = some (.cells (ints .u8 (Vector.replicate 32 (0 : Int)).toList).toArray 22 (0, 0)) ∧ w11.heap[b2]? = some (.cells (ints .u32 a5.toList ++ (ints .u8 a6.toList ++ ([Value.int .i64 x6] ++ ([Value.int .u64 x7])))).toArray 76 (0, 0)) ∧ Own w11 5 1 A1 [128].length n1 (ints .u8 [128]) ∧ w11.heap[b3]? = some (.cells (ints .u8 a8.toList).toArray 22 (0, 0)) ∧ Fr [] w w11 ∧ sha_Hash_Sum.l0 a5 j1 x8 a8 = some ex3) ?_ k ?_ ?_
        · rintro _ _ ⟨_, _, _, _, _, _, _, _, _, hz⟩
          exact absurd hz (by simp [sha_Hash_Sum.l0])
        · exact ⟨0, (Vector.replicate 32 (0 : Int)), ⟨rfl, rfl, rfl, rfl, trivial⟩, h26, h27, h28, h29, h25, F11, hm⟩
        · rintro j1 _ w11 ⟨x8, a8, hE, h40, h41, h42, h43, h44, F15, hm⟩
          rw [sha_Hash_Sum.l0] at hm
          refine W.sub ?_ hE
          refine W.seq ?_
          refine W.region ?_
          refine WL.batch 1 [2, 3, 6, 36, 37] (E' := [(2, .pointer (some ⟨b1, 0, none⟩)), (3, .pointer (some ⟨b2, 0, none⟩)), (6, .pointer (some ⟨b3, 0, none⟩)), (36, .int .i64 x8), (37, .bool (decide (x8 < (32 : Int))))]) (by kernel_rfl) ?_
          refine WL.nil ?_
          refine W.seq ?_
          rcases of_cond hm with ⟨c1, hm⟩ | ⟨c1, hm⟩
          · refine W.condT _ rfl c1 ?_
            refine W.skip ?_
            refine W.seq ?_
            refine W.block ?_
            refine W.seq ?_
            refine W.region ?_
            refine WL.batch 2 [2, 3, 6, 7, 36] (E' := [(2, .pointer (some ⟨b1, 0, none⟩)), (3, .pointer (some ⟨b2, 0, none⟩)), (6, .pointer (some ⟨b3, 0, none⟩)), (7, .int .i64 x8), (36, .int .i64 x8)]) (by kernel_rfl) ?_
            refine WL.nil ?_
            refine W.region ?_
            refine WL.batch 4 [2, 3, 6, 7, 36, 39, 41, 42] (E' := [(2, .pointer (some ⟨b1, 0, none⟩)), (3, .pointer (some ⟨b2, 0, none⟩)), (6, .pointer (some ⟨b3, 0, none⟩)), (7, .int .i64 x8), (36, .int .i64 x8), (39, .int .i64 x8), (41, .int .i64 (wquo .i64 x8 4)), (42, .pointer (some ⟨b2, 0, none⟩))]) (by kernel_rfl) ?_
            obtain ⟨x9, q3, hm⟩ := of_let hm
            rw [q3]
            obtain ⟨⟨c2, c3⟩, hm⟩ := of_guard hm
            refine WL.value (.pointer (some ⟨b2, 0 + Int.toNat x9 * 1, none⟩)) rfl rfl rfl (ex_indexAddrArr Try.underlying55 Try.sizeOf54 rfl rfl c2 c3) rfl ?_
            refine WL.value (.int .u32 (vget a5 x9)) rfl rfl rfl (ex_loadOne Try.underlying54 rfl rfl h42 (Lens.comp (Lens.head _ (ints .u32 (vset a5 x9 (vget a5 x9)).toList) _) (Lens.vec c2 c3 (vget a5 x9)) rfl)) rfl ?_
            refine WL.batch 4 [2, 3, 6, 36, 39, 44, 48] (E' := [(2, .pointer (some ⟨b1, 0, none⟩)), (3, .pointer (some ⟨b2, 0, none⟩)), (6, .pointer (some ⟨b3, 0, none⟩)), (36, .int .i64 x8), (39, .int .i64 x8), (44, .int .u32 (vget a5 x9)), (48, .int .i64 (wsub .i64 24 (wmul .i64 8 (wrem .i64 x8 4))))]) (by kernel_rfl) ?_
            obtain ⟨x10, q4, hm⟩ := of_let hm
            rw [q4]
            obtain ⟨x11, q5, hm⟩ := of_let hm
            rw [q5]
            obtain ⟨c4, hm⟩ := of_guard hm
            refine WL.value (.int .u32 (wshr .u32 x11 x10)) rfl rfl rfl (ex_shr rfl rfl c4) rfl ?_
            refine WL.batch 1 [2, 3, 6, 36, 39, 50] (E' := [(2, .pointer (some ⟨b1, 0, none⟩)), (3, .pointer (some ⟨b2, 0, none⟩)), (6, .pointer (some ⟨b3, 0, none⟩)), (36, .int .i64 x8), (39, .int .i64 x8), (50, .int .u8 (IntKind.wrap .u8 (wshr .u32 x11 x10)))]) (by kernel_rfl) ?_
            obtain ⟨x12, q6, hm⟩ := of_let hm
            rw [q6]
            obtain ⟨⟨c5, c6⟩, hm⟩ := of_guard hm
            refine WL.value (.pointer (some ⟨b3, 0 + Int.toNat x8 * 1, none⟩)) rfl rfl rfl (ex_indexAddrArr Try.underlying22 Try.sizeOf5 rfl rfl c5 c6) rfl ?_
            refine WL.opS rfl rfl rfl (ex_storeObj rfl rfl Try.sizeOf5 h44 (Lens.comp (Lens.all _ (ints .u8 (vset a8 x8 x12).toList)) (Lens.vec c5 c6 x12) rfl) rfl rfl rfl (one_sing rfl)) ?_
            rintro w12 ⟨F16, h45⟩
            have h46 := Fr.at F16 h40 (ApL.not (x := some bp0) (S := [some b3]) ⟨(Ap.symm (Src.ap' s4 (Lt.one (at_lt h21)) trivial)), trivial⟩ _ rfl)
            have h47 := Fr.at F16 h41 (ApL.not (x := some b1) (S := [some b3]) ⟨(Ap.symm (Src.ap' s4 (Lt.one (at_lt h22)) trivial)), trivial⟩ _ rfl)
            have h48 := Fr.at F16 h42 (ApL.not (x := some b2) (S := [some b3]) ⟨(Ap.symm (Src.ap' s4 (Lt.one (at_lt h23)) trivial)), trivial⟩ _ rfl)
            have h49 := (h43).fr F16 ⟨(Ap.symm (Src.ap' s4 (h24).lt trivial)), trivial⟩
            have F17 := Fr.step F15 F16 ⟨(In0.src s4 F10.size trivial), trivial⟩
            refine ⟨_, rfl, ?_⟩
            obtain ⟨a9, q7, hm⟩ := of_let hm
            rw [q7] at h45
            refine WL.nil ?_
            refine W.region ?_
            refine WL.batch 2 [2, 3, 6, 36] (E' := [(2, .pointer (some ⟨b1, 0, none⟩)), (3, .pointer (some ⟨b2, 0, none⟩)), (6, .pointer (some ⟨b3, 0, none⟩)), (36, .int .i64 (wadd .i64 x8 1))]) (by kernel_rfl) ?_
            obtain ⟨x13, q8, hm⟩ := of_let hm
            rw [q8]
            refine WL.nil ?_
            exact ⟨x13, a9, ⟨rfl, rfl, rfl, rfl, trivial⟩, h46, h47, h48, h49, h45, F17, hm⟩
          · refine W.condF _ rfl c1 ?_
            refine W.exit ?_
            exact rest3 _ _ ⟨a8, ⟨rfl, rfl, trivial⟩, h40, h41, h42, h43, h44, F15, (Option.some.inj hm)⟩
    · replace hm := hm3
      clear hm3
      refine W.block ?_
      refine W.loop (fun j2 E w13 => ∃ (x14 : Int) (a10 : Vector Int 8) (a11 : Vector Int 64) (x15 : Int) (x16 : Int), Env.sub E [(2, .pointer (some ⟨b1, 0, none⟩)), (3, .pointer (some ⟨b2, 0, none⟩)), (4, .int .u64 x1), (5, .int .i64 x14)] ∧ w13.heap[bp0]? = some (.cells (ints .u32 p0o_0.toList ++ (ints .u8 p0o_1.toList ++ ([Value.int .i64 p0o_2] ++ ([Value.int .u64 p0o_3])))).toArray 76 (0, 0)) ∧ w13.heap[b1]? = some (.cells (ints .u8 (Vector.replicate 32 (0 : Int)).toList).toArray 22 (0, 0)) ∧ w13.heap[b2]? = some (.cells (ints .u32 a10.toList ++ (ints .u8 a11.toList ++ ([Value.int .i64 x15] ++ ([Value.int .u64 x16])))).toArray 76 (0, 0)) ∧ Own w13 5 1 A1 [128].length n1 (ints .u8 [128]) ∧ Fr [] w w13 ∧ sha_Hash_Sum.l1 x1 k j2 x14 a10 a11 x15 x16 = some ex2) ?_ k ?_ ?_
      · rintro _ _ ⟨_, _, _, _, _, _, _, _, _, _, _, hz⟩
        exact absurd hz (by simp [sha_Hash_Sum.l1])
      · exact ⟨56, a3, a4, x4, x5, ⟨rfl, rfl, rfl, rfl, trivial⟩, h17, h18, h19, h20, F9, hm⟩
      · rintro j2 _ w13 ⟨x14, a10, a11, x15, x16, hE, h50, h51, h52, h53, F18, hm⟩
        rw [sha_Hash_Sum.l1] at hm
        refine W.sub ?_ hE
        refine W.seq ?_
        refine W.seq ?_
        refine W.region ?_
        refine WL.batch 2 [2, 3, 4, 5, 27] (E' := [(2, .pointer (some ⟨b1, 0, none⟩)), (3, .pointer (some ⟨b2, 0, none⟩)), (4, .int .u64 x1), (5, .int .i64 x14), (27, .bool (decide (x14 ≥ (0 : Int))))]) (by kernel_rfl) ?_
        refine WL.nil ?_
        rcases of_cond hm with ⟨c7, hm⟩ | ⟨c7, hm⟩
        · refine W.condT _ rfl c7 ?_
          refine W.skip ?_
          refine W.seq ?_
          refine W.block ?_
          refine W.region ?_
          refine WL.batch 2 [2, 3, 4, 5, 30, 31] (E' := [(2, .pointer (some ⟨b1, 0, none⟩)), (3, .pointer (some ⟨b2, 0, none⟩)), (4, .int .u64 x1), (5, .int .i64 x14), (30, .int .u64 x1), (31, .int .i64 x14)]) (by kernel_rfl) ?_
          obtain ⟨c8, hm⟩ := of_guard hm
          refine WL.value (.int .u64 (wshr .u64 x1 x14)) rfl rfl rfl (ex_shr rfl rfl c8) rfl ?_
          refine WL.batch 1 [2, 3, 4, 5, 33] (E' := [(2, .pointer (some ⟨b1, 0, none⟩)), (3, .pointer (some ⟨b2, 0, none⟩)), (4, .int .u64 x1), (5, .int .i64 x14), (33, .int .u8 (IntKind.wrap .u8 (wshr .u64 x1 x14)))]) (by kernel_rfl) ?_
          obtain ⟨x17, q9, hm⟩ := of_let hm
          rw [q9]
          refine WL.op rfl rfl rfl (ex_buildSliceI (T := 5) (k := .u8) (l2 := [x17]) rfl (fun _ => by kernel_rfl) rfl rfl) ?_
          rintro _ w14 ⟨A2, n2, rfl, h54, F19, s5⟩
          have h55 := Fr.at F19 h50 (ApL.not (x := some bp0) (S := []) trivial _ rfl)
          have h56 := Fr.at F19 h51 (ApL.not (x := some b1) (S := []) trivial _ rfl)
          have h57 := Fr.at F19 h52 (ApL.not (x := some b2) (S := []) trivial _ rfl)
          have h58 := (h53).fr F19 trivial
          have F20 := Fr.step F18 F19 trivial
          refine ⟨_, rfl, ?_⟩
          obtain ⟨⟨a12, a13, x18, x19⟩, q10, hm⟩ := of_bind hm
          refine WL.call rfl rfl rfl (ex_callI (args := [.pointer (some ⟨b2, 0, none⟩), .slice A2 [x17].length n2]) rfl rfl rfl Try.call38) (sha_Hash_Write_walk k a10 a11 x15 x16 [x17] b2 A2 n2 _ h57 (h54).rd (Ap.symm (Src.ap' s5 (Lt.one (at_lt h52)) trivial)) a12 a13 x18 x19 q10) ?_
          rintro _ w15 ⟨rfl, F21, h59⟩
          have h60 := Fr.at F21 h55 (ApL.not (x := some bp0) (S := [some b2]) ⟨(Ap.symm (Src.ap' s2 (Lt.one (at_lt h2)) trivial)), trivial⟩ _ rfl)
          have h61 := Fr.at F21 h56 (ApL.not (x := some b1) (S := [some b2]) ⟨(Ap.symm (Src.ap' s2 (Lt.one (at_lt h1)) trivial)), trivial⟩ _ rfl)
          have h62 := (h58).fr F21 ⟨(Src.ap' s3 (Lt.one (at_lt h6)) trivial), trivial⟩
          have h63 := (h54).fr F21 ⟨(Src.ap' s5 (Lt.one (at_lt h52)) trivial), trivial⟩
          have F22 := Fr.step F20 F21 ⟨(In0.src s2 F1.size trivial), trivial⟩
          refine ⟨_, _, rfl, rfl, ?_⟩
          refine WL.nil ?_
          refine W.region ?_
          refine WL.batch 3 [2, 3, 4, 5] (E' := [(2, .pointer (some ⟨b1, 0, none⟩)), (3, .pointer (some ⟨b2, 0, none⟩)), (4, .int .u64 x1), (5, .int .i64 (wsub .i64 x14 8))]) (by kernel_rfl) ?_
          obtain ⟨x20, q11, hm⟩ := of_let hm
          rw [q11]
          refine WL.nil ?_
          exact ⟨x20, a12, a13, x18, x19, ⟨rfl, rfl, rfl, rfl, trivial⟩, h60, h61, h59, h62, F22, hm⟩
        · refine W.condF _ rfl c7 ?_
          refine W.exit ?_
          exact rest2 _ _ ⟨a10, a11, x15, x16, ⟨rfl, rfl, trivial⟩, h50, h51, h52, h53, F18, (Option.some.inj hm)⟩
  · replace hm := hm1
    clear hm1
    refine W.seq ?_
    refine W.block ?_
    refine W.loop (fun j3 E w16 => ∃ (a14 : Vector Int 8) (a15 : Vector Int 64) (x21 : Int) (x22 : Int), Env.sub E [(2, .pointer (some ⟨b1, 0, none⟩)), (3, .pointer (some ⟨b2, 0, none⟩)), (4, .int .u64 x1)] ∧ w16.heap[bp0]? = some (.cells (ints .u32 p0o_0.toList ++ (ints .u8 p0o_1.toList ++ ([Value.int .i64 p0o_2] ++ ([Value.int .u64 p0o_3])))).toArray 76 (0, 0)) ∧ w16.heap[b1]? = some (.cells (ints .u8 (Vector.replicate 32 (0 : Int)).toList).toArray 22 (0, 0)) ∧ w16.heap[b2]? = some (.cells (ints .u32 a14.toList ++ (ints .u8 a15.toList ++ ([Value.int .i64 x21] ++ ([Value.int .u64 x22])))).toArray 76 (0, 0)) ∧ Own w16 5 1 A1 [128].length n1 (ints .u8 [128]) ∧ Fr [] w w16 ∧ sha_Hash_Sum.l2 k j3 a14 a15 x21 x22 = some ex1) ?_ k ?_ ?_
    · rintro _ _ ⟨_, _, _, _, _, _, _, _, _, _, hz⟩
      exact absurd hz (by simp [sha_Hash_Sum.l2])
    · exact ⟨a1, a2, x2, x3, ⟨rfl, rfl, rfl, trivial⟩, h14, h15, h13, h16, F8, hm⟩
    · rintro j3 _ w16 ⟨a14, a15, x21, x22, hE, h64, h65, h66, h67, F23, hm⟩
      rw [sha_Hash_Sum.l2] at hm
      refine W.sub ?_ hE
      refine W.seq ?_
      refine W.seq ?_
      refine W.region ?_
      refine WL.batch 1 [2, 3, 4, 21] (E' := [(2, .pointer (some ⟨b1, 0, none⟩)), (3, .pointer (some ⟨b2, 0, none⟩)), (4, .int .u64 x1), (21, .pointer (some ⟨b2, 72, none⟩))]) (by kernel_rfl) ?_
      refine WL.value (.int .i64 x21) rfl rfl rfl (ex_loadOne Try.underlying3 rfl rfl h66 (Lens.skip (ivl _ _) (Lens.skip (ivl _ _) (Lens.head _ ([Value.int .i64 x21]) _) rfl) rfl)) rfl ?_
      refine WL.batch 1 [2, 3, 4, 23] (E' := [(2, .pointer (some ⟨b1, 0, none⟩)), (3, .pointer (some ⟨b2, 0, none⟩)), (4, .int .u64 x1), (23, .bool (x21 != (56 : Int)))]) (by kernel_rfl) ?_
      refine WL.nil ?_
      rcases of_cond hm with ⟨c9, hm⟩ | ⟨c9, hm⟩
      · refine W.condT _ rfl c9 ?_
        refine W.skip ?_
        refine W.block ?_
        refine W.region ?_
        refine WL.op rfl rfl rfl (ex_buildSliceI (T := 5) (k := .u8) (l2 := [0]) rfl (fun _ => by kernel_rfl) rfl rfl) ?_
        rintro _ w17 ⟨A3, n3, rfl, h68, F24, s6⟩
        have h69 := Fr.at F24 h64 (ApL.not (x := some bp0) (S := []) trivial _ rfl)
        have h70 := Fr.at F24 h65 (ApL.not (x := some b1) (S := []) trivial _ rfl)
        have h71 := Fr.at F24 h66 (ApL.not (x := some b2) (S := []) trivial _ rfl)
        have h72 := (h67).fr F24 trivial
        have F25 := Fr.step F23 F24 trivial
        refine ⟨_, rfl, ?_⟩
        obtain ⟨⟨a16, a17, x23, x24⟩, q12, hm⟩ := of_bind hm
        refine WL.call rfl rfl rfl (ex_callI (args := [.pointer (some ⟨b2, 0, none⟩), .slice A3 [0].length n3]) rfl rfl rfl Try.call38) (sha_Hash_Write_walk k a14 a15 x21 x22 [0] b2 A3 n3 _ h71 (h68).rd (Ap.symm (Src.ap' s6 (Lt.one (at_lt h66)) trivial)) a16 a17 x23 x24 q12) ?_
        rintro _ w18 ⟨rfl, F26, h73⟩
        have h74 := Fr.at F26 h69 (ApL.not (x := some bp0) (S := [some b2]) ⟨(Ap.symm (Src.ap' s2 (Lt.one (at_lt h2)) trivial)), trivial⟩ _ rfl)
        have h75 := Fr.at F26 h70 (ApL.not (x := some b1) (S := [some b2]) ⟨(Ap.symm (Src.ap' s2 (Lt.one (at_lt h1)) trivial)), trivial⟩ _ rfl)
        have h76 := (h72).fr F26 ⟨(Src.ap' s3 (Lt.one (at_lt h6)) trivial), trivial⟩
        have h77 := (h68).fr F26 ⟨(Src.ap' s6 (Lt.one (at_lt h66)) trivial), trivial⟩
        have F27 := Fr.step F25 F26 ⟨(In0.src s2 F1.size trivial), trivial⟩
        refine ⟨_, _, rfl, rfl, ?_⟩
        refine WL.nil ?_
        exact ⟨a16, a17, x23, x24, ⟨rfl, rfl, rfl, trivial⟩, h74, h75, h73, h76, F27, hm⟩
      · refine W.condF _ rfl c9 ?_
        refine W.exit ?_
        exact rest1 _ _ ⟨a14, a15, x21, x22, ⟨rfl, rfl, rfl, trivial⟩, h64, h65, h66, h67, F23, (Option.some.inj hm)⟩

/- cautery/sha.All -/
theorem sha_All_walk (k : Nat) (p0i : List Int) (Ap0i : Option Addr) (np0i : Nat) (bp0 : Nat) (w : World) (hp0i : Rd w 1 Ap0i p0i.length np0i (ints .u8 p0i)) (hp0 : w.heap[bp0]? = some (.cells ([Value.slice Ap0i p0i.length np0i]).toArray 23 (0, 0))) (r0 : Vector Int 32) (hm : sha_All.f k p0i = some r0) :
    Calls Try.prog 26 #[.slice (some ⟨bp0, 0, none⟩) 1 1] w fun e w' => e = .returned (.agg (ints .u8 r0.toList).toArray) ∧ Fr [] w w' := by
  have F0 := Fr.refl [] w
  unfold sha_All.f at hm
  refine W.enter (args := [.slice (some ⟨bp0, 0, none⟩) 1 1]) Try.func26 rfl (n := 19) rfl rfl ?_
  refine W.seq ?_
  refine W.region ?_
  refine WL.op rfl rfl rfl (ex_alloc' (z := .agg (ints .u8 (Vector.replicate 32 (0 : Int)).toList).toArray) (cs := ints .u8 (Vector.replicate 32 (0 : Int)).toList) (fun _ => by kernel_rfl) (by kernel_rfl)) ?_
  rintro _ w1 ⟨b1, rfl, N1⟩
  have h1 := N1.at_
  have s1 := Src.new [] (Ge.one N1.ge)
  have h2 := (hp0i).fr N1.fr trivial
  have h3 := Fr.at N1.fr hp0 (ApL.not (x := some bp0) (S := []) trivial _ rfl)
  have F1 := Fr.step F0 N1.fr trivial
  refine ⟨_, rfl, ?_⟩
  refine WL.nil ?_
  refine W.seq ?_
  refine W.region ?_
  obtain ⟨⟨a1, a2, x1, x2⟩, q1, hm⟩ := of_bind hm
  refine WL.call rfl rfl rfl (ex_callI (args := []) rfl rfl rfl Try.call37) (sha_New_walk   _   a1 a2 x1 x2 q1) ?_
  rintro _ w2 ⟨b2, rfl, F2, h4, s2⟩
  have h5 := (h2).fr F2 trivial
  have h6 := Fr.at F2 h3 (ApL.not (x := some bp0) (S := []) trivial _ rfl)
  have h7 := Fr.at F2 h1 (ApL.not (x := some b1) (S := []) trivial _ rfl)
  have F3 := Fr.step F1 F2 trivial
  refine ⟨_, _, rfl, rfl, ?_⟩
  refine WL.batch 1 [0, 2, 3] (E' := [(0, .slice (some ⟨bp0, 0, none⟩) 1 1), (2, .pointer (some ⟨b1, 0, none⟩)), (3, .pointer (some ⟨b2, 0, none⟩))]) (by kernel_rfl) ?_
  refine WL.nil ?_
  refine W.seq ?_
  refine W.seq ?_
  refine W.region ?_
  refine WL.batch 3 [2, 3, 7, 8, 9] (E' := [(2, .pointer (some ⟨b1, 0, none⟩)), (3, .pointer (some ⟨b2, 0, none⟩)), (7, .slice (some ⟨bp0, 0, none⟩) 1 1), (8, .int .i64 1), (9, .int .i64 0)]) (by kernel_rfl) ?_
  refine WL.nil ?_
  obtain ⟨ex1, hm1, hm2⟩ := of_bind hm
  refine W.joinN (fun E w3 => ∃ (a3 : Vector Int 8) (a4 : Vector Int 64) (x3 : Int) (x4 : Int), Env.sub E [(2, .pointer (some ⟨b1, 0, none⟩)), (3, .pointer (some ⟨b2, 0, none⟩))] ∧ Rd w3 1 Ap0i p0i.length np0i (ints .u8 p0i) ∧ w3.heap[bp0]? = some (.cells ([Value.slice Ap0i p0i.length np0i]).toArray 23 (0, 0)) ∧ w3.heap[b1]? = some (.cells (ints .u8 (Vector.replicate 32 (0 : Int)).toList).toArray 22 (0, 0)) ∧ w3.heap[b2]? = some (.cells (ints .u32 a3.toList ++ (ints .u8 a4.toList ++ ([Value.int .i64 x3] ++ ([Value.int .u64 x4])))).toArray 76 (0, 0)) ∧ Fr [] w w3 ∧ (a3, a4, x3, x4) = ex1) ?_ (fun rest1 => ?_)
  · rintro _ w3 ⟨a3, a4, x3, x4, hE, h8, h9, h10, h11, F4, rfl⟩
    replace hm := hm2
    clear hm1
    refine W.sub ?_ hE
    refine W.seq ?_
    refine W.region ?_
    refine WL.batch 1 [2, 17] (E' := [(2, .pointer (some ⟨b1, 0, none⟩)), (17, .pointer (some ⟨b2, 0, none⟩))]) (by kernel_rfl) ?_
    obtain ⟨a5, q2, hm⟩ := of_bind hm
    refine WL.call rfl rfl rfl (ex_callI (args := [.pointer (some ⟨b2, 0, none⟩)]) rfl rfl rfl Try.call39) (sha_Hash_Sum_walk k a3 a4 x3 x4 b2 _ h11  a5 q2) ?_
    rintro _ w4 ⟨rfl, F5⟩
    have h12 := (h8).fr F5 trivial
    have h13 := Fr.at F5 h9 (ApL.not (x := some bp0) (S := []) trivial _ rfl)
    have h14 := Fr.at F5 h10 (ApL.not (x := some b1) (S := []) trivial _ rfl)
    have h15 := Fr.at F5 h11 (ApL.not (x := some b2) (S := []) trivial _ rfl)
    have F6 := Fr.step F4 F5 trivial
    refine ⟨_, _, rfl, rfl, ?_⟩
    refine WL.opS rfl rfl rfl (ex_storeObj rfl rfl Try.sizeOf22 h14 (Lens.all _ (ints .u8 a5.toList)) (ivl _ _) (ivl _ _) rfl (ints_one _ _)) ?_
    rintro w5 ⟨F7, h16⟩
    have h17 := (h12).fr F7 ⟨(Ap.symm (Src.ap' s1 (hp0i).lt trivial)), trivial⟩
    have h18 := Fr.at F7 h13 (ApL.not (x := some bp0) (S := [some b1]) ⟨(Ap.symm (Src.ap' s1 (Lt.one (at_lt hp0)) trivial)), trivial⟩ _ rfl)
    have h19 := Fr.at F7 h15 (ApL.not (x := some b2) (S := [some b1]) ⟨(Src.ap' s2 (Lt.one (at_lt h1)) trivial), trivial⟩ _ rfl)
    have F8 := Fr.step F6 F7 ⟨(In0.src s1 (Nat.le_refl _) trivial), trivial⟩
    refine ⟨_, rfl, ?_⟩
    refine WL.nil ?_
    refine W.ret ?_
    obtain rfl := Option.some.inj hm
    exact ⟨_, ⟨_, _, _, rfl, rfl, (loadVar_aggN Try.underlying22 rfl Try.sizeOf22 (ivl _ _) h16 (Lens.all _ (ints .u8 a5.toList))), rfl⟩, ⟨rfl, F8⟩⟩
  · replace hm := hm1
    clear hm1
    refine W.block ?_
    refine W.loop (fun j1 E w6 => ∃ (x5 : Int) (a6 : Vector Int 8) (a7 : Vector Int 64) (x6 : Int) (x7 : Int), Env.sub E [(2, .pointer (some ⟨b1, 0, none⟩)), (3, .pointer (some ⟨b2, 0, none⟩)), (7, .slice (some ⟨bp0, 0, none⟩) 1 1), (8, .int .i64 1), (9, .int .i64 x5)] ∧ Rd w6 1 Ap0i p0i.length np0i (ints .u8 p0i) ∧ w6.heap[bp0]? = some (.cells ([Value.slice Ap0i p0i.length np0i]).toArray 23 (0, 0)) ∧ w6.heap[b1]? = some (.cells (ints .u8 (Vector.replicate 32 (0 : Int)).toList).toArray 22 (0, 0)) ∧ w6.heap[b2]? = some (.cells (ints .u32 a6.toList ++ (ints .u8 a7.toList ++ ([Value.int .i64 x6] ++ ([Value.int .u64 x7])))).toArray 76 (0, 0)) ∧ Fr [] w w6 ∧ sha_All.l0 p0i k j1 x5 a6 a7 x6 x7 = some ex1) ?_ k ?_ ?_
    · rintro _ _ ⟨_, _, _, _, _, _, _, _, _, _, _, hz⟩
      exact absurd hz (by simp [sha_All.l0])
    · exact ⟨0, a1, a2, x1, x2, ⟨rfl, rfl, rfl, rfl, rfl, trivial⟩, h5, h6, h7, h4, F3, hm⟩
    · rintro j1 _ w6 ⟨x5, a6, a7, x6, x7, hE, h20, h21, h22, h23, F9, hm⟩
      rw [sha_All.l0] at hm
      refine W.sub ?_ hE
      refine W.seq ?_
      refine W.region ?_
      refine WL.batch 1 [2, 3, 7, 8, 9, 10] (E' := [(2, .pointer (some ⟨b1, 0, none⟩)), (3, .pointer (some ⟨b2, 0, none⟩)), (7, .slice (some ⟨bp0, 0, none⟩) 1 1), (8, .int .i64 1), (9, .int .i64 x5), (10, .bool (decide (x5 < (1 : Int))))]) (by kernel_rfl) ?_
      refine WL.nil ?_
      refine W.seq ?_
      rcases of_cond hm with ⟨c1, hm⟩ | ⟨c1, hm⟩
      · refine W.condT _ rfl c1 ?_
        refine W.skip ?_
        refine W.seq ?_
        refine W.block ?_
        refine W.seq ?_
        refine W.region ?_
        obtain ⟨⟨c2, c3⟩, hm⟩ := of_guard hm
        refine WL.value (.pointer (some ⟨bp0, 0, none⟩)) rfl rfl rfl (ex_indexAddr1 Try.underlying66 Try.sizeOf23 rfl rfl c2 c3) rfl ?_
        refine WL.value (.slice Ap0i p0i.length np0i) rfl rfl rfl (ex_loadOne Try.underlying23 rfl rfl h21 (Lens.all _ ([Value.slice Ap0i p0i.length np0i]))) rfl ?_
        refine WL.batch 1 [2, 3, 5, 7, 8, 9] (E' := [(2, .pointer (some ⟨b1, 0, none⟩)), (3, .pointer (some ⟨b2, 0, none⟩)), (5, .slice Ap0i p0i.length np0i), (7, .slice (some ⟨bp0, 0, none⟩) 1 1), (8, .int .i64 1), (9, .int .i64 x5)]) (by kernel_rfl) ?_
        refine WL.nil ?_
        refine W.region ?_
        refine WL.batch 2 [2, 3, 7, 8, 9, 13, 14] (E' := [(2, .pointer (some ⟨b1, 0, none⟩)), (3, .pointer (some ⟨b2, 0, none⟩)), (7, .slice (some ⟨bp0, 0, none⟩) 1 1), (8, .int .i64 1), (9, .int .i64 x5), (13, .pointer (some ⟨b2, 0, none⟩)), (14, .slice Ap0i p0i.length np0i)]) (by kernel_rfl) ?_
        obtain ⟨⟨a8, a9, x8, x9⟩, q3, hm⟩ := of_bind hm
        refine WL.call rfl rfl rfl (ex_callI (args := [.pointer (some ⟨b2, 0, none⟩), .slice Ap0i p0i.length np0i]) rfl rfl rfl Try.call38) (sha_Hash_Write_walk k a6 a7 x6 x7 p0i b2 Ap0i np0i _ h23 h20 (Src.ap' s2 (h2).lt trivial) a8 a9 x8 x9 q3) ?_
        rintro _ w7 ⟨rfl, F10, h24⟩
        have h25 := (h20).fr F10 ⟨(Ap.symm (Src.ap' s2 (h2).lt trivial)), trivial⟩
        have h26 := Fr.at F10 h21 (ApL.not (x := some bp0) (S := [some b2]) ⟨(Ap.symm (Src.ap' s2 (Lt.one (at_lt h3)) trivial)), trivial⟩ _ rfl)
        have h27 := Fr.at F10 h22 (ApL.not (x := some b1) (S := [some b2]) ⟨(Ap.symm (Src.ap' s2 (Lt.one (at_lt h1)) trivial)), trivial⟩ _ rfl)
        have F11 := Fr.step F9 F10 ⟨(In0.src s2 F1.size trivial), trivial⟩
        refine ⟨_, _, rfl, rfl, ?_⟩
        refine WL.nil ?_
        refine W.region ?_
        refine WL.batch 2 [2, 3, 7, 8, 9] (E' := [(2, .pointer (some ⟨b1, 0, none⟩)), (3, .pointer (some ⟨b2, 0, none⟩)), (7, .slice (some ⟨bp0, 0, none⟩) 1 1), (8, .int .i64 1), (9, .int .i64 (wadd .i64 x5 1))]) (by kernel_rfl) ?_
        obtain ⟨x10, q4, hm⟩ := of_let hm
        rw [q4]
        refine WL.nil ?_
        exact ⟨x10, a8, a9, x8, x9, ⟨rfl, rfl, rfl, rfl, rfl, trivial⟩, h25, h26, h27, h24, F11, hm⟩
      · refine W.condF _ rfl c1 ?_
        refine W.exit ?_
        exact rest1 _ _ ⟨a6, a7, x6, x7, ⟨rfl, rfl, trivial⟩, h20, h21, h22, h23, F9, (Option.some.inj hm)⟩

/- cautery/sha.Sum -/
theorem sha_Sum_walk (k : Nat) (p0 : List Int) (Ap0 : Option Addr) (np0 : Nat) (w : World) (hp0 : Rd w 1 Ap0 p0.length np0 (ints .u8 p0)) (r0 : Vector Int 32) (hm : sha_Sum.f k p0 = some r0) :
    Calls Try.prog 17 #[.slice Ap0 p0.length np0] w fun e w' => e = .returned (.agg (ints .u8 r0.toList).toArray) ∧ Fr [] w w' := by
  have F0 := Fr.refl [] w
  unfold sha_Sum.f at hm
  refine W.enter (args := [.slice Ap0 p0.length np0]) Try.func17 rfl (n := 6) rfl rfl ?_
  refine W.seq ?_
  refine W.region ?_
  refine WL.op rfl rfl rfl (ex_alloc' (z := .agg (ints .u8 (Vector.replicate 32 (0 : Int)).toList).toArray) (cs := ints .u8 (Vector.replicate 32 (0 : Int)).toList) (fun _ => by kernel_rfl) (by kernel_rfl)) ?_
  rintro _ w1 ⟨b1, rfl, N1⟩
  have h1 := N1.at_
  have s1 := Src.new [] (Ge.one N1.ge)
  have h2 := (hp0).fr N1.fr trivial
  have F1 := Fr.step F0 N1.fr trivial
  refine ⟨_, rfl, ?_⟩
  refine WL.nil ?_
  refine W.seq ?_
  refine W.region ?_
  refine WL.batch 1 [2, 3] (E' := [(2, .pointer (some ⟨b1, 0, none⟩)), (3, .slice Ap0 p0.length np0)]) (by kernel_rfl) ?_
  refine WL.op rfl rfl rfl (ex_buildRow (z := .slice none 0 0) Try.underlying66 Try.sizeOf23 (fun _ => by kernel_rfl) rfl rfl rfl) ?_
  rintro _ w2 ⟨b2, rfl, N2⟩
  have h3 := N2.at_
  have s2 := Src.new [] (Ge.one N2.ge)
  have h4 := (h2).fr N2.fr trivial
  have h5 := Fr.at N2.fr h1 (ApL.not (x := some b1) (S := []) trivial _ rfl)
  have F2 := Fr.step F1 N2.fr trivial
  refine ⟨_, rfl, ?_⟩
  obtain ⟨a1, q1, hm⟩ := of_bind hm
  refine WL.call rfl rfl rfl (ex_callI (args := [.slice (some ⟨b2, 0, none⟩) 1 1]) rfl rfl rfl Try.call26) (sha_All_walk k p0 Ap0 np0 b2 _ h4 h3  a1 q1) ?_
  rintro _ w3 ⟨rfl, F3⟩
  have h6 := (h4).fr F3 trivial
  have h7 := Fr.at F3 h5 (ApL.not (x := some b1) (S := []) trivial _ rfl)
  have h8 := Fr.at F3 h3 (ApL.not (x := some b2) (S := []) trivial _ rfl)
  have F4 := Fr.step F2 F3 trivial
  refine ⟨_, _, rfl, rfl, ?_⟩
  refine WL.opS rfl rfl rfl (ex_storeObj rfl rfl Try.sizeOf22 h7 (Lens.all _ (ints .u8 a1.toList)) (ivl _ _) (ivl _ _) rfl (ints_one _ _)) ?_
  rintro w4 ⟨F5, h9⟩
  have h10 := (h6).fr F5 ⟨(Ap.symm (Src.ap' s1 (hp0).lt trivial)), trivial⟩
  have h11 := Fr.at F5 h8 (ApL.not (x := some b2) (S := [some b1]) ⟨(Src.ap' s2 (Lt.one (at_lt h1)) trivial), trivial⟩ _ rfl)
  have F6 := Fr.step F4 F5 ⟨(In0.src s1 (Nat.le_refl _) trivial), trivial⟩
  refine ⟨_, rfl, ?_⟩
  refine WL.nil ?_
  refine W.ret ?_
  obtain rfl := Option.some.inj hm
  exact ⟨_, ⟨_, _, _, rfl, rfl, (loadVar_aggN Try.underlying22 rfl Try.sizeOf22 (ivl _ _) h9 (Lens.all _ (ints .u8 a1.toList))), rfl⟩, ⟨rfl, F6⟩⟩

/- cautery/bisect.May -/
theorem bisect_May_walk (k : Nat) (p0_0 : Int) (p0_1 : ByteArray) (p0_2 : ByteArray) (p0_3 : Int) (p0_4 : Int) (p0_5 : Vector Int 32) (p0_6 : List Int) (Ap0_6 : Option Addr) (np0_6 : Nat) (w : World) (hp0_6 : Rd w 1 Ap0_6 p0_6.length np0_6 (ints .u8 p0_6)) (r0 : Bool) (hm : bisect_May.f k p0_0 p0_1 p0_2 p0_3 p0_4 p0_5 p0_6 = some r0) :
    Calls Try.prog 11 #[.agg ([Value.int .i64 p0_0] ++ ([Value.string p0_1] ++ ([Value.string p0_2] ++ ([Value.int .i64 p0_3] ++ ([Value.int .i64 p0_4] ++ (ints .u8 p0_5.toList ++ ([Value.slice Ap0_6 p0_6.length np0_6]))))))).toArray] w fun e w' => e = .returned (.bool r0) ∧ Fr [] w w' := by
  have F0 := Fr.refl [] w
  unfold bisect_May.f at hm
  refine W.enter (args := [.agg ([Value.int .i64 p0_0] ++ ([Value.string p0_1] ++ ([Value.string p0_2] ++ ([Value.int .i64 p0_3] ++ ([Value.int .i64 p0_4] ++ (ints .u8 p0_5.toList ++ ([Value.slice Ap0_6 p0_6.length np0_6]))))))).toArray]) Try.func11 rfl (n := 60) rfl rfl ?_
  refine W.seq ?_
  refine W.region ?_
  refine WL.op rfl rfl rfl (ex_box' (cs := [Value.int .i64 p0_0] ++ ([Value.string p0_1] ++ ([Value.string p0_2] ++ ([Value.int .i64 p0_3] ++ ([Value.int .i64 p0_4] ++ (ints .u8 p0_5.toList ++ ([Value.slice Ap0_6 p0_6.length np0_6]))))))) rfl rfl) ?_
  rintro _ w1 ⟨b1, rfl, N1⟩
  have h1 := N1.at_
  have s1 := Src.new [] (Ge.one N1.ge)
  have h2 := (hp0_6).fr N1.fr trivial
  have F1 := Fr.step F0 N1.fr trivial
  refine ⟨_, rfl, ?_⟩
  refine WL.batch 1 [1] (E' := [(1, .pointer (some ⟨b1, 0, none⟩))]) (by kernel_rfl) ?_
  refine WL.nil ?_
  refine W.seq ?_
  obtain ⟨ex1, hm1, hm2⟩ := of_bind hm
  refine W.joinN (fun E w2 => Env.sub E [(1, .pointer (some ⟨b1, 0, none⟩))] ∧ Rd w2 1 Ap0_6 p0_6.length np0_6 (ints .u8 p0_6) ∧ w2.heap[b1]? = some (.cells ([Value.int .i64 p0_0] ++ ([Value.string p0_1] ++ ([Value.string p0_2] ++ ([Value.int .i64 p0_3] ++ ([Value.int .i64 p0_4] ++ (ints .u8 p0_5.toList ++ ([Value.slice Ap0_6 p0_6.length np0_6]))))))).toArray 25 (0, 0)) ∧ Fr [] w w2 ∧ Ex.go () = ex1) ?_ (fun rest1 => ?_)
  · rintro _ w2 ⟨hE, h3, h4, F2, rfl⟩
    replace hm := hm2
    clear hm1
    refine W.sub ?_ hE
    refine W.seq ?_
    refine W.seq ?_
    refine W.region ?_
    refine WL.batch 1 [1, 30] (E' := [(1, .pointer (some ⟨b1, 0, none⟩)), (30, .pointer (some ⟨b1, 0, none⟩))]) (by kernel_rfl) ?_
    refine WL.value (.int .i64 p0_0) rfl rfl rfl (ex_loadOne Try.underlying3 rfl rfl h4 (Lens.head _ ([Value.int .i64 p0_0]) _)) rfl ?_
    refine WL.nil ?_
    refine W.block ?_
    refine W.seq ?_
    refine W.region ?_
    refine WL.batch 2 [1, 31, 32] (E' := [(1, .pointer (some ⟨b1, 0, none⟩)), (31, .int .i64 p0_0), (32, .bool (p0_0 == (1 : Int)))]) (by kernel_rfl) ?_
    refine WL.nil ?_
    rcases of_cond hm with ⟨c1, hm⟩ | ⟨c1, hm⟩
    · refine W.condT _ rfl c1 ?_
      refine W.seq ?_
      refine W.region ?_
      refine WL.batch 1 [34] (E' := [(34, .pointer (some ⟨b1, 37, none⟩))]) (by kernel_rfl) ?_
      refine WL.value (.slice Ap0_6 p0_6.length np0_6) rfl rfl rfl (ex_loadOne Try.underlying23 rfl rfl h4 (Lens.skip rfl (Lens.skip rfl (Lens.skip rfl (Lens.skip rfl (Lens.skip rfl (Lens.skip (ivl _ _) (Lens.all _ ([Value.slice Ap0_6 p0_6.length np0_6])) rfl) rfl) rfl) rfl) rfl) rfl)) rfl ?_
      refine WL.batch 3 [2] (E' := [(2, .bool ((p0_6.length : Int) == (0 : Int)))]) (by kernel_rfl) ?_
      refine WL.nil ?_
      refine W.ret ?_
      obtain rfl := Option.some.inj hm
      exact ⟨_, ⟨_, _, rfl, rfl, rfl⟩, ⟨rfl, F2⟩⟩
    · refine W.condF _ rfl c1 ?_
      refine W.seq ?_
      refine W.region ?_
      refine WL.batch 2 [1, 38] (E' := [(1, .pointer (some ⟨b1, 0, none⟩)), (38, .bool (p0_0 == (2 : Int)))]) (by kernel_rfl) ?_
      refine WL.nil ?_
      rcases of_cond hm with ⟨c2, hm⟩ | ⟨c2, hm⟩
      · refine W.condT _ rfl c2 ?_
        refine W.seq ?_
        refine W.regionDw (N := 21) Try_mixed rfl ?_
        intro w3 F3
        have h5 := (h3).fr F3 trivial
        have h6 := Fr.at F3 h4 (ApL.not (x := some b1) (S := []) trivial _ rfl)
        have F4 := Fr.step F2 F3 trivial
        refine WD.batch (f' := 19) [0, 2] #[true, false, true, false, false, false, false, false, false, false, false, false, false, false, false, false, false, false, false, false, false] [1, 40, 42] rfl (E' := [(1, .pointer (some ⟨b1, 0, none⟩)), (40, .pointer (some ⟨b1, 4, none⟩)), (42, .pointer (some ⟨b1, 3, none⟩))]) (by kernel_rfl) ?_
        refine WD.load 1 [15] [4, 5, 6, 7, 8, 9, 10, 11, 12, 13, 14, 15, 16, 17, 18, 19, 20] (.int .i64 p0_4) rfl (by kernel_rfl) rfl rfl rfl (ex_loadOne Try.underlying3 rfl rfl h6 (Lens.skip rfl (Lens.skip rfl (Lens.skip rfl (Lens.skip rfl (Lens.head _ ([Value.int .i64 p0_4]) _) rfl) rfl) rfl) rfl)) ?_
        refine WD.load 3 [15] [4, 5, 6, 7, 8, 9, 10, 11, 12, 13, 14, 15, 16, 17, 18, 19, 20] (.int .i64 p0_3) rfl (by kernel_rfl) rfl rfl rfl (ex_loadOne Try.underlying3 rfl rfl h6 (Lens.skip rfl (Lens.skip rfl (Lens.skip rfl (Lens.head _ ([Value.int .i64 p0_3]) _) rfl) rfl) rfl)) ?_
        refine WD.batch (f' := 14) [4, 5, 6] #[true, true, true, true, true, true, true, false, false, false, false, false, false, false, false, false, false, false, false, false, false] [1, 46] rfl (E' := [(1, .pointer (some ⟨b1, 0, none⟩)), (46, .bool ((wsub .i64 p0_4 p0_3) == (1 : Int)))]) (by kernel_rfl) ?_
        rcases of_cond hm with ⟨c3, hm⟩ | ⟨c3, hm⟩
        · rw [c3]
          refine WD.batch (f' := 13) [7] #[true, true, true, true, true, true, true, true, false, false, false, false, false, false, false, false, false, false, false, false, false] [1, 46, 47] rfl (E' := [(1, .pointer (some ⟨b1, 0, none⟩)), (46, .bool true), (47, .pointer (some ⟨b1, 37, none⟩))]) (by kernel_rfl) ?_
          refine WD.load 8 [15] [9, 10, 11, 12, 13, 14, 15, 16, 17, 18, 19, 20] (.slice Ap0_6 p0_6.length np0_6) rfl (by kernel_rfl) rfl rfl rfl (ex_loadOne Try.underlying23 rfl rfl h6 (Lens.skip rfl (Lens.skip rfl (Lens.skip rfl (Lens.skip rfl (Lens.skip rfl (Lens.skip (ivl _ _) (Lens.all _ ([Value.slice Ap0_6 p0_6.length np0_6])) rfl) rfl) rfl) rfl) rfl) rfl)) ?_
          refine WD.batch (f' := 8) [9, 10, 11, 12] #[true, true, true, true, true, true, true, true, true, true, true, true, true, false, false, false, false, false, false, false, false] [1, 52] rfl (E' := [(1, .pointer (some ⟨b1, 0, none⟩)), (52, .bool ((p0_6.length : Int) == (256 : Int)))]) (by kernel_rfl) ?_
          rcases of_cond hm with ⟨c4, hm⟩ | ⟨c4, hm⟩
          · rw [c4]
            refine WD.batch (f' := 6) [13, 16] #[true, true, true, true, true, true, true, true, true, true, true, true, true, true, false, false, true, false, false, false, false] [52, 53, 56] rfl (E' := [(52, .bool true), (53, .pointer (some ⟨b1, 37, none⟩)), (56, .pointer (some ⟨b1, 5, none⟩))]) (by kernel_rfl) ?_
            refine WD.load 14 [15] [15, 18, 19, 20] (.slice Ap0_6 p0_6.length np0_6) rfl (by kernel_rfl) rfl rfl rfl (ex_loadOne Try.underlying23 rfl rfl h6 (Lens.skip rfl (Lens.skip rfl (Lens.skip rfl (Lens.skip rfl (Lens.skip rfl (Lens.skip (ivl _ _) (Lens.all _ ([Value.slice Ap0_6 p0_6.length np0_6])) rfl) rfl) rfl) rfl) rfl) rfl)) ?_
            refine WD.load 17 [] [18, 19, 20] (.agg (ints .u8 p0_5.toList).toArray) rfl (by kernel_rfl) rfl rfl rfl (ex_loadAgg Try.underlying22 rfl Try.sizeOf22 (ivl _ _) rfl h6 (Lens.skip rfl (Lens.skip rfl (Lens.skip rfl (Lens.skip rfl (Lens.skip rfl (Lens.head _ (ints .u8 p0_5.toList) _) rfl) rfl) rfl) rfl) rfl)) ?_
            obtain ⟨a1, q1, hm⟩ := of_bind hm
            refine WD.call 15 (by kernel_rfl) rfl rfl rfl rfl (ex_callI (args := [.slice Ap0_6 p0_6.length np0_6]) rfl rfl rfl Try.call17) (sha_Sum_walk k p0_6 Ap0_6 np0_6 _ h5  a1 q1) ?_
            rintro _ w4 ⟨rfl, F5⟩
            have h7 := (h5).fr F5 trivial
            have h8 := Fr.at F5 h6 (ApL.not (x := some b1) (S := []) trivial _ rfl)
            have F6 := Fr.step F4 F5 trivial
            refine ⟨_, _, rfl, rfl, ⟨(ex_loadAgg Try.underlying22 rfl Try.sizeOf22 (ivl _ _) rfl h8 (Lens.skip rfl (Lens.skip rfl (Lens.skip rfl (Lens.skip rfl (Lens.skip rfl (Lens.head _ (ints .u8 p0_5.toList) _) rfl) rfl) rfl) rfl) rfl)), trivial⟩, ?_⟩
            refine WD.valU 18 (.bool (a1.toList == p0_5.toList)) rfl (by kernel_rfl) rfl rfl (fun _ => (ex_eqArrI Try.underlying22 Try.underlying5 Try.sizeOf5 (by kernel_rfl) rfl rfl)) rfl ?_
            refine WD.batch (f' := 0) [19, 20] #[true, true, true, true, true, true, true, true, true, true, true, true, true, true, true, true, true, true, true, true, true] [2] rfl (E' := [(2, .bool (a1.toList == p0_5.toList))]) (by kernel_rfl) ?_
            refine WD.end_ (by kernel_rfl) ?_
            refine W.ret ?_
            obtain rfl := Option.some.inj hm
            exact ⟨_, ⟨_, _, rfl, rfl, rfl⟩, ⟨rfl, F6⟩⟩
          · rw [c4]
            refine WD.batch (f' := 4) [13, 14, 16, 17] #[true, true, true, true, true, true, true, true, true, true, true, true, true, true, true, false, true, true, false, false, false] [52, 54, 57] rfl (E' := [(52, .bool false), (54, undef), (57, undef)]) (by kernel_rfl) ?_
            refine WD.skip 15 (by kernel_rfl) rfl rfl rfl trivial ?_
            refine WD.batch (f' := 0) [18, 19, 20] #[true, true, true, true, true, true, true, true, true, true, true, true, true, true, true, true, true, true, true, true, true] [2] rfl (E' := [(2, .bool false)]) (by kernel_rfl) ?_
            refine WD.end_ (by kernel_rfl) ?_
            refine W.ret ?_
            obtain rfl := Option.some.inj hm
            exact ⟨_, ⟨_, _, rfl, rfl, rfl⟩, ⟨rfl, F4⟩⟩
        · rw [c3]
          refine WD.batch (f' := 4) [7, 8, 9, 10, 11, 12, 13, 14, 16, 17] #[true, true, true, true, true, true, true, true, true, true, true, true, true, true, true, false, true, true, false, false, false] [52, 54, 57] rfl (E' := [(52, .bool false), (54, undef), (57, undef)]) (by kernel_rfl) ?_
          refine WD.skip 15 (by kernel_rfl) rfl rfl rfl trivial ?_
          refine WD.batch (f' := 0) [18, 19, 20] #[true, true, true, true, true, true, true, true, true, true, true, true, true, true, true, true, true, true, true, true, true] [2] rfl (E' := [(2, .bool false)]) (by kernel_rfl) ?_
          refine WD.end_ (by kernel_rfl) ?_
          refine W.ret ?_
          obtain rfl := Option.some.inj hm
          exact ⟨_, ⟨_, _, rfl, rfl, rfl⟩, ⟨rfl, F4⟩⟩
      · refine W.condF _ rfl c2 ?_
        refine W.skip ?_
        refine W.seq ?_
        refine W.region ?_
        refine WL.batch 1 [2] (E' := [(2, .bool false)]) (by kernel_rfl) ?_
        refine WL.nil ?_
        refine W.ret ?_
        obtain rfl := Option.some.inj hm
        exact ⟨_, ⟨_, _, rfl, rfl, rfl⟩, ⟨rfl, F2⟩⟩
  · replace hm := hm1
    clear hm1
    refine W.seq ?_
    refine W.region ?_
    refine WL.batch 1 [1, 3] (E' := [(1, .pointer (some ⟨b1, 0, none⟩)), (3, .pointer (some ⟨b1, 1, none⟩))]) (by kernel_rfl) ?_
    refine WL.value (.string p0_1) rfl rfl rfl (ex_loadOne Try.underlying9 rfl rfl h1 (Lens.skip rfl (Lens.head _ ([Value.string p0_1]) _) rfl)) rfl ?_
    obtain ⟨y1, q2, hm⟩ := of_bind hm
    refine WL.call rfl rfl rfl (ex_callI (args := [.string p0_1]) rfl rfl rfl Try.call20) (catalog_IsName_walk k p0_1  _   y1 q2) ?_
    rintro _ w5 ⟨rfl, F7⟩
    have h9 := (h2).fr F7 trivial
    have h10 := Fr.at F7 h1 (ApL.not (x := some b1) (S := []) trivial _ rfl)
    have F8 := Fr.step F1 F7 trivial
    refine ⟨_, _, rfl, rfl, ?_⟩
    refine WL.batch 2 [1, 7] (E' := [(1, .pointer (some ⟨b1, 0, none⟩)), (7, .bool (!y1))]) (by kernel_rfl) ?_
    rcases of_cond hm with ⟨c5, hm⟩ | ⟨c5, hm⟩
    · rw [c5]
      refine WL.batch 22 [1, 29] (E' := [(1, .pointer (some ⟨b1, 0, none⟩)), (29, .bool true)]) (by kernel_rfl) ?_
      refine WL.nil ?_
      refine W.condT _ rfl rfl ?_
      refine W.seq ?_
      refine W.region ?_
      refine WL.batch 1 [2] (E' := [(2, .bool false)]) (by kernel_rfl) ?_
      refine WL.nil ?_
      refine W.ret ?_
      obtain rfl := Option.some.inj hm
      replace hm := hm2
      obtain rfl := Option.some.inj hm
      exact ⟨_, ⟨_, _, rfl, rfl, rfl⟩, ⟨rfl, F8⟩⟩
    · rw [c5]
      refine WL.batch 1 [1, 7, 8] (E' := [(1, .pointer (some ⟨b1, 0, none⟩)), (7, .bool false), (8, .pointer (some ⟨b1, 2, none⟩))]) (by kernel_rfl) ?_
      refine WL.value (.string p0_2) rfl rfl rfl (ex_loadOne Try.underlying9 rfl rfl h10 (Lens.skip rfl (Lens.skip rfl (Lens.head _ ([Value.string p0_2]) _) rfl) rfl)) rfl ?_
      obtain ⟨y2, q3, hm⟩ := of_bind hm
      refine WL.call rfl rfl rfl (ex_callI (args := [.string p0_2]) rfl rfl rfl Try.call20) (catalog_IsName_walk k p0_2  _   y2 q3) ?_
      rintro _ w6 ⟨rfl, F9⟩
      have h11 := (h9).fr F9 trivial
      have h12 := Fr.at F9 h10 (ApL.not (x := some b1) (S := []) trivial _ rfl)
      have F10 := Fr.step F8 F9 trivial
      refine ⟨_, _, rfl, rfl, ?_⟩
      refine WL.batch 3 [1, 13] (E' := [(1, .pointer (some ⟨b1, 0, none⟩)), (13, .bool (!y2))]) (by kernel_rfl) ?_
      rcases of_cond hm with ⟨c6, hm⟩ | ⟨c6, hm⟩
      · rw [c6]
        refine WL.batch 16 [1, 29] (E' := [(1, .pointer (some ⟨b1, 0, none⟩)), (29, .bool true)]) (by kernel_rfl) ?_
        refine WL.nil ?_
        refine W.condT _ rfl rfl ?_
        refine W.seq ?_
        refine W.region ?_
        refine WL.batch 1 [2] (E' := [(2, .bool false)]) (by kernel_rfl) ?_
        refine WL.nil ?_
        refine W.ret ?_
        obtain rfl := Option.some.inj hm
        replace hm := hm2
        obtain rfl := Option.some.inj hm
        exact ⟨_, ⟨_, _, rfl, rfl, rfl⟩, ⟨rfl, F10⟩⟩
      · rw [c6]
        refine WL.batch 1 [1, 13, 14] (E' := [(1, .pointer (some ⟨b1, 0, none⟩)), (13, .bool false), (14, .pointer (some ⟨b1, 3, none⟩))]) (by kernel_rfl) ?_
        refine WL.value (.int .i64 p0_3) rfl rfl rfl (ex_loadOne Try.underlying3 rfl rfl h12 (Lens.skip rfl (Lens.skip rfl (Lens.skip rfl (Lens.head _ ([Value.int .i64 p0_3]) _) rfl) rfl) rfl)) rfl ?_
        refine WL.batch 3 [1, 18] (E' := [(1, .pointer (some ⟨b1, 0, none⟩)), (18, .bool (decide (p0_3 < (0 : Int))))]) (by kernel_rfl) ?_
        rcases of_cond hm with ⟨c7, hm⟩ | ⟨c7, hm⟩
        · rw [c7]
          refine WL.batch 11 [1, 29] (E' := [(1, .pointer (some ⟨b1, 0, none⟩)), (29, .bool true)]) (by kernel_rfl) ?_
          refine WL.nil ?_
          refine W.condT _ rfl rfl ?_
          refine W.seq ?_
          refine W.region ?_
          refine WL.batch 1 [2] (E' := [(2, .bool false)]) (by kernel_rfl) ?_
          refine WL.nil ?_
          refine W.ret ?_
          obtain rfl := Option.some.inj hm
          replace hm := hm2
          obtain rfl := Option.some.inj hm
          exact ⟨_, ⟨_, _, rfl, rfl, rfl⟩, ⟨rfl, F10⟩⟩
        · rw [c7]
          refine WL.batch 1 [1, 18, 19] (E' := [(1, .pointer (some ⟨b1, 0, none⟩)), (18, .bool false), (19, .pointer (some ⟨b1, 3, none⟩))]) (by kernel_rfl) ?_
          refine WL.value (.int .i64 p0_3) rfl rfl rfl (ex_loadOne Try.underlying3 rfl rfl h12 (Lens.skip rfl (Lens.skip rfl (Lens.skip rfl (Lens.head _ ([Value.int .i64 p0_3]) _) rfl) rfl) rfl)) rfl ?_
          refine WL.batch 1 [1, 18, 20, 21] (E' := [(1, .pointer (some ⟨b1, 0, none⟩)), (18, .bool false), (20, .int .i64 p0_3), (21, .pointer (some ⟨b1, 4, none⟩))]) (by kernel_rfl) ?_
          refine WL.value (.int .i64 p0_4) rfl rfl rfl (ex_loadOne Try.underlying3 rfl rfl h12 (Lens.skip rfl (Lens.skip rfl (Lens.skip rfl (Lens.skip rfl (Lens.head _ ([Value.int .i64 p0_4]) _) rfl) rfl) rfl) rfl)) rfl ?_
          refine WL.batch 3 [1, 25] (E' := [(1, .pointer (some ⟨b1, 0, none⟩)), (25, .bool (decide (p0_3 ≥ (p0_4 : Int))))]) (by kernel_rfl) ?_
          rcases of_cond hm with ⟨c8, hm⟩ | ⟨c8, hm⟩
          · rw [c8]
            refine WL.batch 4 [1, 29] (E' := [(1, .pointer (some ⟨b1, 0, none⟩)), (29, .bool true)]) (by kernel_rfl) ?_
            refine WL.nil ?_
            refine W.condT _ rfl rfl ?_
            refine W.seq ?_
            refine W.region ?_
            refine WL.batch 1 [2] (E' := [(2, .bool false)]) (by kernel_rfl) ?_
            refine WL.nil ?_
            refine W.ret ?_
            obtain rfl := Option.some.inj hm
            replace hm := hm2
            obtain rfl := Option.some.inj hm
            exact ⟨_, ⟨_, _, rfl, rfl, rfl⟩, ⟨rfl, F10⟩⟩
          · rw [c8]
            refine WL.batch 1 [1, 25, 26] (E' := [(1, .pointer (some ⟨b1, 0, none⟩)), (25, .bool false), (26, .pointer (some ⟨b1, 4, none⟩))]) (by kernel_rfl) ?_
            refine WL.value (.int .i64 p0_4) rfl rfl rfl (ex_loadOne Try.underlying3 rfl rfl h12 (Lens.skip rfl (Lens.skip rfl (Lens.skip rfl (Lens.skip rfl (Lens.head _ ([Value.int .i64 p0_4]) _) rfl) rfl) rfl) rfl)) rfl ?_
            refine WL.batch 2 [1, 29] (E' := [(1, .pointer (some ⟨b1, 0, none⟩)), (29, .bool (decide (p0_4 > (16 : Int))))]) (by kernel_rfl) ?_
            refine WL.nil ?_
            rcases of_cond hm with ⟨c9, hm⟩ | ⟨c9, hm⟩
            · refine W.condT _ rfl c9 ?_
              refine W.seq ?_
              refine W.region ?_
              refine WL.batch 1 [2] (E' := [(2, .bool false)]) (by kernel_rfl) ?_
              refine WL.nil ?_
              refine W.ret ?_
              obtain rfl := Option.some.inj hm
              replace hm := hm2
              obtain rfl := Option.some.inj hm
              exact ⟨_, ⟨_, _, rfl, rfl, rfl⟩, ⟨rfl, F10⟩⟩
            · refine W.condF _ rfl c9 ?_
              refine W.skip ?_
              exact rest1 _ _ ⟨⟨rfl, trivial⟩, h11, h12, F10, (Option.some.inj hm)⟩

/- cautery/num.grown -/
theorem num_grown_walk (p0 : List Int) (p1 : Int) (Ap0 : Option Addr) (np0 : Nat) (w : World) (hp0 : Rd w 1 Ap0 p0.length np0 (ints .u8 p0)) (r0 : List Int) (hm : num_grown.f p0 p1 = some r0) :
    Calls Try.prog 36 #[.slice Ap0 p0.length np0, .int .i64 p1] w fun e w' => ∃ (A0 : Option Addr) (n0 : Nat), e = .returned (.slice A0 r0.length n0) ∧ Fr [] w w' ∧ Own w' 5 1 A0 r0.length n0 (ints .u8 r0) ∧ Src (ablk A0) w.heap.size [] := by
  have F0 := Fr.refl [] w
  unfold num_grown.f at hm
  refine W.enter (args := [.slice Ap0 p0.length np0, .int .i64 p1]) Try.func36 rfl (n := 17) rfl rfl ?_
  refine W.seq ?_
  refine W.region ?_
  refine WL.batch 1 [0, 1] (E' := [(0, .slice Ap0 p0.length np0), (1, .int .i64 p1)]) (by kernel_rfl) ?_
  refine WL.nil ?_
  refine W.seq ?_
  refine W.region ?_
  refine WL.batch 6 [0, 7, 11] (E' := [(0, .slice Ap0 p0.length np0), (7, .int .i64 (p0.length : Int)), (11, .int .i64 (wadd .i64 (p0.length : Int) p1))]) (by kernel_rfl) ?_
  obtain ⟨x1, q1, hm⟩ := of_let hm
  rw [q1]
  obtain ⟨⟨c1, c2, c3, c4⟩, hm⟩ := of_guard hm
  obtain ⟨l1, q2, hm⟩ := of_let hm
  refine WL.op rfl rfl rfl (ex_makeI (k := .u8) (bytes := 1) Try.underlying23 (by kernel_rfl) rfl rfl c1 c2 c3 c4 q2) ?_
  rintro _ w1 ⟨A1, n1, rfl, h1, F1, s1⟩
  have h2 := (hp0).fr F1 trivial
  have F2 := Fr.step F0 F1 trivial
  refine ⟨_, rfl, ?_⟩
  refine WL.batch 1 [0, 5] (E' := [(0, .slice Ap0 p0.length np0), (5, .slice A1 l1.length n1)]) (by kernel_rfl) ?_
  refine WL.nil ?_
  refine W.seq ?_
  refine W.region ?_
  refine WL.batch 2 [5, 13, 14] (E' := [(5, .slice A1 l1.length n1), (13, .slice A1 l1.length n1), (14, .slice Ap0 p0.length np0)]) (by kernel_rfl) ?_
  obtain ⟨l2, q3, hm⟩ := of_let hm
  refine WL.op rfl rfl rfl (ex_copyOwn (k := .u8) Try.underlying23 Try.sizeOf5 rfl rfl h1 h2 q3) ?_
  rintro _ w2 ⟨rfl, F3, h3⟩
  have h4 := (h2).fr F3 ⟨(Ap.symm (Src.ap' s1 (hp0).lt trivial)), trivial⟩
  have F4 := Fr.step F2 F3 ⟨(In0.src s1 (Nat.le_refl _) trivial), trivial⟩
  refine ⟨_, rfl, ?_⟩
  have e2 : l1.length = l2.length := lcopy_len q3
  refine WL.env (by first | rw [e2] | rfl) ?_
  refine WL.nil ?_
  refine W.seq ?_
  refine W.region ?_
  refine WL.batch 2 [4] (E' := [(4, .slice A1 l2.length n1)]) (by kernel_rfl) ?_
  refine WL.nil ?_
  refine W.ret ?_
  obtain rfl := Option.some.inj hm
  exact ⟨_, ⟨_, _, rfl, rfl, rfl⟩, ⟨A1, n1, rfl, F4, h3, (Src.trans' s1 (Nat.le_refl _) trivial)⟩⟩

/- cautery/num.Put -/
theorem num_Put_walk (k : Nat) (p0 : List Int) (p1 : Int) (Ap0 : Option Addr) (np0 : Nat) (w : World) (hp0 : Rd w 1 Ap0 p0.length np0 (ints .u8 p0)) (r0 : List Int) (hm : num_Put.f k p0 p1 = some r0) :
    Calls Try.prog 25 #[.slice Ap0 p0.length np0, .int .u64 p1] w fun e w' => ∃ (A0 : Option Addr) (n0 : Nat), e = .returned (.slice A0 r0.length n0) ∧ Fr [] w w' ∧ Own w' 5 1 A0 r0.length n0 (ints .u8 r0) ∧ Src (ablk A0) w.heap.size [] := by
  have F0 := Fr.refl [] w
  unfold num_Put.f at hm
  refine W.enter (args := [.slice Ap0 p0.length np0, .int .u64 p1]) Try.func25 rfl (n := 23) rfl rfl ?_
  refine W.seq ?_
  refine W.region ?_
  refine WL.batch 1 [0, 1] (E' := [(0, .slice Ap0 p0.length np0), (1, .int .u64 p1)]) (by kernel_rfl) ?_
  refine WL.nil ?_
  refine W.seq ?_
  refine W.region ?_
  refine WL.batch 1 [1, 6] (E' := [(1, .int .u64 p1), (6, .slice Ap0 p0.length np0)]) (by kernel_rfl) ?_
  obtain ⟨l1, q1, hm⟩ := of_bind hm
  refine WL.call rfl rfl rfl (ex_callI (args := [.slice Ap0 p0.length np0, .int .i64 10]) rfl rfl rfl Try.call36) (num_grown_walk p0 10 Ap0 np0 _ hp0  l1 q1) ?_
  rintro _ w1 ⟨A1, n1, rfl, F1, h1, s1⟩
  have h2 := (hp0).fr F1 trivial
  have F2 := Fr.step F0 F1 trivial
  refine ⟨_, _, rfl, rfl, ?_⟩
  refine WL.batch 1 [1, 5] (E' := [(1, .int .u64 p1), (5, .slice A1 l1.length n1)]) (by kernel_rfl) ?_
  refine WL.nil ?_
  obtain ⟨ex1, hm1, hm2⟩ := of_bind hm
  refine W.join1 (fun E w2 => ∃ (x1 : Int) (l2 : List Int) (A2 : Option Addr) (n2 : Nat), Env.sub E [(1, .int .u64 x1), (5, .slice A2 l2.length n2)] ∧ Rd w2 1 Ap0 p0.length np0 (ints .u8 p0) ∧ Own w2 5 1 A2 l2.length n2 (ints .u8 l2) ∧ Fr [] w w2 ∧ Src (ablk A2) w.heap.size [] ∧ Ap (ablk A2) (rblk Ap0 p0.length) ∧ (x1, l2) = ex1) ?_ (fun rest1 => ?_)
  · rintro _ w2 ⟨x1, l2, A2, n2, hE, h3, h4, F3, s2, ap1, rfl⟩
    replace hm := hm2
    clear hm1
    refine W.sub ?_ hE
    refine W.seq ?_
    refine W.region ?_
    refine WL.batch 3 [18, 20] (E' := [(18, .slice A2 l2.length n2), (20, .int .u8 (IntKind.wrap .u8 x1))]) (by kernel_rfl) ?_
    obtain ⟨x2, q2, hm⟩ := of_let hm
    rw [q2]
    refine WL.op rfl rfl rfl (ex_buildSliceI (T := 5) (k := .u8) (l2 := [x2]) rfl (fun _ => by kernel_rfl) rfl rfl) ?_
    rintro _ w3 ⟨A3, n3, rfl, h5, F4, s3⟩
    have h6 := (h3).fr F4 trivial
    have h7 := (h4).fr F4 trivial
    have F5 := Fr.step F3 F4 trivial
    refine ⟨_, rfl, ?_⟩
    obtain ⟨l3, q3, hm⟩ := of_let hm
    obtain ⟨c1, hm⟩ := of_guard hm
    refine WL.op rfl rfl rfl (ex_appendI (k := .u8) (bytes := 1) Try.underlying23 (by kernel_rfl) rfl rfl h7 (h5).rd q3 c1) ?_
    rintro _ w4 ⟨A4, n4, rfl, h8, F6, s4⟩
    have h9 := (h6).fr F6 ⟨(Ap.symm ap1), trivial⟩
    have h10 := (h5).fr F6 ⟨(Src.ap' s3 (h4).lt trivial), trivial⟩
    have F7 := Fr.step F5 F6 ⟨(In0.src s2 (Nat.le_refl _) trivial), trivial⟩
    refine ⟨_, rfl, ?_⟩
    refine WL.batch 1 [4] (E' := [(4, .slice A4 l3.length n4)]) (by kernel_rfl) ?_
    refine WL.nil ?_
    refine W.ret ?_
    obtain rfl := Option.some.inj hm
    exact ⟨_, ⟨_, _, rfl, rfl, rfl⟩, ⟨A4, n4, rfl, F7, h8, (Src.trans' s4 F5.size ⟨(Src.trans' s2 (Nat.le_refl _) trivial), trivial⟩)⟩⟩
  · replace hm := hm1
    clear hm1
    refine W.seq ?_
    refine W.block ?_
    refine W.loop (fun j1 E w5 => ∃ (x3 : Int) (l4 : List Int) (A5 : Option Addr) (n5 : Nat), Env.sub E [(1, .int .u64 x3), (5, .slice A5 l4.length n5)] ∧ Rd w5 1 Ap0 p0.length np0 (ints .u8 p0) ∧ Own w5 5 1 A5 l4.length n5 (ints .u8 l4) ∧ Fr [] w w5 ∧ Src (ablk A5) w.heap.size [] ∧ Ap (ablk A5) (rblk Ap0 p0.length) ∧ num_Put.l0  j1 x3 l4 = some ex1) ?_ k ?_ ?_
    · rintro _ _ ⟨_, _, _, _, _, _, _, _, _, _, hz⟩
      exact absurd hz (by simp [num_Put.l0])
    · exact ⟨p1, l1, A1, n1, ⟨rfl, rfl, trivial⟩, h2, h1, F2, (Src.trans' s1 (Nat.le_refl _) trivial), (Src.ap' s1 (hp0).lt trivial), hm⟩
    · rintro j1 _ w5 ⟨x3, l4, A5, n5, hE, h11, h12, F8, s5, ap2, hm⟩
      rw [num_Put.l0] at hm
      refine W.sub ?_ hE
      refine W.seq ?_
      refine W.seq ?_
      refine W.region ?_
      refine WL.batch 2 [1, 5, 9] (E' := [(1, .int .u64 x3), (5, .slice A5 l4.length n5), (9, .bool (decide (x3 ≥ (128 : Int))))]) (by kernel_rfl) ?_
      refine WL.nil ?_
      rcases of_cond hm with ⟨c2, hm⟩ | ⟨c2, hm⟩
      · refine W.condT _ rfl c2 ?_
        refine W.skip ?_
        refine W.seq ?_
        refine W.block ?_
        refine W.region ?_
        refine WL.batch 4 [1, 12, 15] (E' := [(1, .int .u64 x3), (12, .slice A5 l4.length n5), (15, .int .u8 (wor .u8 (IntKind.wrap .u8 x3) 128))]) (by kernel_rfl) ?_
        obtain ⟨x4, q4, hm⟩ := of_let hm
        rw [q4]
        refine WL.op rfl rfl rfl (ex_buildSliceI (T := 5) (k := .u8) (l2 := [x4]) rfl (fun _ => by kernel_rfl) rfl rfl) ?_
        rintro _ w6 ⟨A6, n6, rfl, h13, F9, s6⟩
        have h14 := (h11).fr F9 trivial
        have h15 := (h12).fr F9 trivial
        have F10 := Fr.step F8 F9 trivial
        refine ⟨_, rfl, ?_⟩
        obtain ⟨l5, q5, hm⟩ := of_let hm
        obtain ⟨c3, hm⟩ := of_guard hm
        refine WL.op rfl rfl rfl (ex_appendI (k := .u8) (bytes := 1) Try.underlying23 (by kernel_rfl) rfl rfl h15 (h13).rd q5 c3) ?_
        rintro _ w7 ⟨A7, n7, rfl, h16, F11, s7⟩
        have h17 := (h14).fr F11 ⟨(Ap.symm ap2), trivial⟩
        have h18 := (h13).fr F11 ⟨(Src.ap' s6 (h12).lt trivial), trivial⟩
        have F12 := Fr.step F10 F11 ⟨(In0.src s5 (Nat.le_refl _) trivial), trivial⟩
        refine ⟨_, rfl, ?_⟩
        refine WL.batch 1 [1, 5] (E' := [(1, .int .u64 x3), (5, .slice A7 l5.length n7)]) (by kernel_rfl) ?_
        refine WL.nil ?_
        refine W.region ?_
        refine WL.batch 3 [1, 5] (E' := [(1, .int .u64 (wshr .u64 x3 7)), (5, .slice A7 l5.length n7)]) (by kernel_rfl) ?_
        obtain ⟨x5, q6, hm⟩ := of_let hm
        rw [q6]
        refine WL.nil ?_
        exact ⟨x5, l5, A7, n7, ⟨rfl, rfl, trivial⟩, h17, h16, F12, (Src.trans' s7 F10.size ⟨(Src.trans' s5 (Nat.le_refl _) trivial), trivial⟩), (Src.ap' s7 (h14).lt ⟨ap2, trivial⟩), hm⟩
      · refine W.condF _ rfl c2 ?_
        refine W.exit ?_
        exact rest1 _ _ ⟨x3, l4, A5, n5, ⟨rfl, rfl, trivial⟩, h11, h12, F8, (Src.trans' s5 (Nat.le_refl _) trivial), ap2, (Option.some.inj hm)⟩

/- cautery/num.PutString -/
theorem num_PutString_walk (k : Nat) (p0 : List Int) (p1 : List Int) (Ap0 : Option Addr) (np0 : Nat) (Ap1 : Option Addr) (np1 : Nat) (w : World) (hp0 : Rd w 1 Ap0 p0.length np0 (ints .u8 p0)) (hp1 : Rd w 1 Ap1 p1.length np1 (ints .u8 p1)) (r0 : List Int) (hm : num_PutString.f k p0 p1 = some r0) :
    Calls Try.prog 16 #[.slice Ap0 p0.length np0, .slice Ap1 p1.length np1] w fun e w' => ∃ (A0 : Option Addr) (n0 : Nat), e = .returned (.slice A0 r0.length n0) ∧ Fr [] w w' ∧ Own w' 5 1 A0 r0.length n0 (ints .u8 r0) ∧ Src (ablk A0) w.heap.size [] := by
  have F0 := Fr.refl [] w
  unfold num_PutString.f at hm
  refine W.enter (args := [.slice Ap0 p0.length np0, .slice Ap1 p1.length np1]) Try.func16 rfl (n := 12) rfl rfl ?_
  refine W.seq ?_
  refine W.region ?_
  refine WL.batch 1 [0, 1] (E' := [(0, .slice Ap0 p0.length np0), (1, .slice Ap1 p1.length np1)]) (by kernel_rfl) ?_
  refine WL.nil ?_
  refine W.seq ?_
  refine W.region ?_
  refine WL.batch 4 [1, 5, 8] (E' := [(1, .slice Ap1 p1.length np1), (5, .slice Ap0 p0.length np0), (8, .int .u64 (IntKind.wrap .u64 (p1.length : Int)))]) (by kernel_rfl) ?_
  obtain ⟨x1, q1, hm⟩ := of_let hm
  rw [q1]
  obtain ⟨l1, q2, hm⟩ := of_bind hm
  refine WL.call rfl rfl rfl (ex_callI (args := [.slice Ap0 p0.length np0, .int .u64 x1]) rfl rfl rfl Try.call25) (num_Put_walk k p0 x1 Ap0 np0 _ hp0  l1 q2) ?_
  rintro _ w1 ⟨A1, n1, rfl, F1, h1, s1⟩
  have h2 := (hp0).fr F1 trivial
  have h3 := (hp1).fr F1 trivial
  have F2 := Fr.step F0 F1 trivial
  refine ⟨_, _, rfl, rfl, ?_⟩
  refine WL.batch 1 [9, 10] (E' := [(9, .slice A1 l1.length n1), (10, .slice Ap1 p1.length np1)]) (by kernel_rfl) ?_
  obtain ⟨l2, q3, hm⟩ := of_let hm
  obtain ⟨c1, hm⟩ := of_guard hm
  refine WL.op rfl rfl rfl (ex_appendI (k := .u8) (bytes := 1) Try.underlying23 (by kernel_rfl) rfl rfl h1 h3 q3 c1) ?_
  rintro _ w2 ⟨A2, n2, rfl, h4, F3, s2⟩
  have h5 := (h2).fr F3 ⟨(Ap.symm (Src.ap' s1 (hp0).lt trivial)), trivial⟩
  have h6 := (h3).fr F3 ⟨(Ap.symm (Src.ap' s1 (hp1).lt trivial)), trivial⟩
  have F4 := Fr.step F2 F3 ⟨(In0.src s1 (Nat.le_refl _) trivial), trivial⟩
  refine ⟨_, rfl, ?_⟩
  refine WL.batch 1 [4] (E' := [(4, .slice A2 l2.length n2)]) (by kernel_rfl) ?_
  refine WL.nil ?_
  refine W.ret ?_
  obtain rfl := Option.some.inj hm
  exact ⟨_, ⟨_, _, rfl, rfl, rfl⟩, ⟨A2, n2, rfl, F4, h4, (Src.trans' s2 F2.size ⟨(Src.trans' s1 (Nat.le_refl _) trivial), trivial⟩)⟩⟩

/- cautery/bisect.Encode -/
theorem bisect_Encode_walk (k : Nat) (p0_0 : Int) (p0_1 : ByteArray) (p0_2 : ByteArray) (p0_3 : Int) (p0_4 : Int) (p0_5 : Vector Int 32) (p0_6 : List Int) (Ap0_6 : Option Addr) (np0_6 : Nat) (w : World) (hp0_6 : Rd w 1 Ap0_6 p0_6.length np0_6 (ints .u8 p0_6)) (r0 : List Int) (r1 : Int) (hm : bisect_Encode.f k p0_0 p0_1 p0_2 p0_3 p0_4 p0_5 p0_6 = some (r0, r1)) :
    Calls Try.prog 8 #[.agg ([Value.int .i64 p0_0] ++ ([Value.string p0_1] ++ ([Value.string p0_2] ++ ([Value.int .i64 p0_3] ++ ([Value.int .i64 p0_4] ++ (ints .u8 p0_5.toList ++ ([Value.slice Ap0_6 p0_6.length np0_6]))))))).toArray] w fun e w' => ∃ (A0 : Option Addr) (n0 : Nat), e = .returned (.tuple #[.slice A0 r0.length n0, .int .i64 r1]) ∧ Fr [] w w' ∧ Own w' 5 1 A0 r0.length n0 (ints .u8 r0) ∧ Src (ablk A0) w.heap.size [] := by
  have F0 := Fr.refl [] w
  unfold bisect_Encode.f at hm
  refine W.enter (args := [.agg ([Value.int .i64 p0_0] ++ ([Value.string p0_1] ++ ([Value.string p0_2] ++ ([Value.int .i64 p0_3] ++ ([Value.int .i64 p0_4] ++ (ints .u8 p0_5.toList ++ ([Value.slice Ap0_6 p0_6.length np0_6]))))))).toArray]) Try.func8 rfl (n := 43) rfl rfl ?_
  refine W.seq ?_
  refine W.region ?_
  refine WL.op rfl rfl rfl (ex_box' (cs := [Value.int .i64 p0_0] ++ ([Value.string p0_1] ++ ([Value.string p0_2] ++ ([Value.int .i64 p0_3] ++ ([Value.int .i64 p0_4] ++ (ints .u8 p0_5.toList ++ ([Value.slice Ap0_6 p0_6.length np0_6]))))))) rfl rfl) ?_
  rintro _ w1 ⟨b1, rfl, N1⟩
  have h1 := N1.at_
  have s1 := Src.new [] (Ge.one N1.ge)
  have h2 := (hp0_6).fr N1.fr trivial
  have F1 := Fr.step F0 N1.fr trivial
  refine ⟨_, rfl, ?_⟩
  refine WL.batch 2 [1] (E' := [(1, .pointer (some ⟨b1, 0, none⟩))]) (by kernel_rfl) ?_
  refine WL.nil ?_
  refine W.seq ?_
  refine W.seq ?_
  refine W.region ?_
  refine WL.value (.agg ([Value.int .i64 p0_0] ++ ([Value.string p0_1] ++ ([Value.string p0_2] ++ ([Value.int .i64 p0_3] ++ ([Value.int .i64 p0_4] ++ (ints .u8 p0_5.toList ++ ([Value.slice Ap0_6 p0_6.length np0_6]))))))).toArray) rfl rfl rfl (ex_loadAgg Try.underlying25 rfl Try.sizeOf25 (len_app rfl (len_app rfl (len_app rfl (len_app rfl (len_app rfl (len_app (ivl _ _) rfl rfl) rfl) rfl) rfl) rfl) rfl) rfl h1 (Lens.all _ ([Value.int .i64 p0_0] ++ ([Value.string p0_1] ++ ([Value.string p0_2] ++ ([Value.int .i64 p0_3] ++ ([Value.int .i64 p0_4] ++ (ints .u8 p0_5.toList ++ ([Value.slice Ap0_6 p0_6.length np0_6]))))))))) rfl ?_
  obtain ⟨y1, q1, hm⟩ := of_bind hm
  refine WL.call rfl rfl rfl (ex_callI (args := [.agg ([Value.int .i64 p0_0] ++ ([Value.string p0_1] ++ ([Value.string p0_2] ++ ([Value.int .i64 p0_3] ++ ([Value.int .i64 p0_4] ++ (ints .u8 p0_5.toList ++ ([Value.slice Ap0_6 p0_6.length np0_6]))))))).toArray]) rfl rfl rfl Try.call11) (bisect_May_walk k p0_0 p0_1 p0_2 p0_3 p0_4 p0_5 p0_6 Ap0_6 np0_6 _ h2  y1 q1) ?_
  rintro _ w2 ⟨rfl, F2⟩
  have h3 := (h2).fr F2 trivial
  have h4 := Fr.at F2 h1 (ApL.not (x := some b1) (S := []) trivial _ rfl)
  have F3 := Fr.step F1 F2 trivial
  refine ⟨_, _, rfl, rfl, ?_⟩
  refine WL.batch 1 [1, 8] (E' := [(1, .pointer (some ⟨b1, 0, none⟩)), (8, .bool (!y1))]) (by kernel_rfl) ?_
  refine WL.nil ?_
  rcases of_cond hm with ⟨c1, hm⟩ | ⟨c1, hm⟩
  · refine W.condT _ rfl c1 ?_
    refine W.seq ?_
    refine W.region ?_
    refine WL.batch 2 [2, 3] (E' := [(2, .slice none 0 0), (3, .int .i64 1)]) (by kernel_rfl) ?_
    refine WL.nil ?_
    refine W.ret ?_
    obtain ⟨q0a, q0b⟩ := Prod.mk.inj (Option.some.inj hm)
    subst q0a
    subst q0b
    exact ⟨_, ⟨_, _, rfl, rfl, ⟨_, _, rfl, rfl, rfl⟩⟩, ⟨none, 0, rfl, F3, (Own.nil _ _ _), (.inl (by simp [ablk, rblk]))⟩⟩
  · refine W.condF _ rfl c1 ?_
    refine W.skip ?_
    refine W.seq ?_
    refine W.region ?_
    refine WL.batch 1 [1, 9] (E' := [(1, .pointer (some ⟨b1, 0, none⟩)), (9, .pointer (some ⟨b1, 0, none⟩))]) (by kernel_rfl) ?_
    refine WL.value (.int .i64 p0_0) rfl rfl rfl (ex_loadOne Try.underlying3 rfl rfl h4 (Lens.head _ ([Value.int .i64 p0_0]) _)) rfl ?_
    refine WL.batch 1 [1, 11] (E' := [(1, .pointer (some ⟨b1, 0, none⟩)), (11, .int .u8 (IntKind.wrap .u8 p0_0))]) (by kernel_rfl) ?_
    obtain ⟨x1, q2, hm⟩ := of_let hm
    rw [q2]
    refine WL.op rfl rfl rfl (ex_buildSliceI (T := 5) (k := .u8) (l2 := [x1]) rfl (fun _ => by kernel_rfl) rfl rfl) ?_
    rintro _ w3 ⟨A1, n1, rfl, h5, F4, s2⟩
    have h6 := (h3).fr F4 trivial
    have h7 := Fr.at F4 h4 (ApL.not (x := some b1) (S := []) trivial _ rfl)
    have F5 := Fr.step F3 F4 trivial
    refine ⟨_, rfl, ?_⟩
    refine WL.batch 1 [1, 12, 13] (E' := [(1, .pointer (some ⟨b1, 0, none⟩)), (12, .slice A1 [x1].length n1), (13, .pointer (some ⟨b1, 1, none⟩))]) (by kernel_rfl) ?_
    refine WL.value (.string p0_1) rfl rfl rfl (ex_loadOne Try.underlying9 rfl rfl h7 (Lens.skip rfl (Lens.head _ ([Value.string p0_1]) _) rfl)) rfl ?_
    obtain ⟨l1, q3, hm⟩ := of_let hm
    obtain ⟨c2, hm⟩ := of_guard hm
    refine WL.op rfl rfl rfl (ex_strBytesI Try.underlying23 Try.underlying9 Try.underlying5 rfl q3 c2) ?_
    rintro _ w4 ⟨A2, n2, rfl, h8, F6, s3⟩
    have h9 := (h6).fr F6 trivial
    have h10 := Fr.at F6 h7 (ApL.not (x := some b1) (S := []) trivial _ rfl)
    have h11 := (h5).fr F6 trivial
    have F7 := Fr.step F5 F6 trivial
    refine ⟨_, rfl, ?_⟩
    obtain ⟨l2, q4, hm⟩ := of_bind hm
    refine WL.call rfl rfl rfl (ex_callI (args := [.slice A1 [x1].length n1, .slice A2 l1.length n2]) rfl rfl rfl Try.call16) (num_PutString_walk k [x1] l1 A1 n1 A2 n2 _ (h11).rd h8  l2 q4) ?_
    rintro _ w5 ⟨A3, n3, rfl, F8, h12, s4⟩
    have h13 := (h9).fr F8 trivial
    have h14 := Fr.at F8 h10 (ApL.not (x := some b1) (S := []) trivial _ rfl)
    have h15 := (h11).fr F8 trivial
    have h16 := (h8).fr F8 trivial
    have F9 := Fr.step F7 F8 trivial
    refine ⟨_, _, rfl, rfl, ?_⟩
    refine WL.batch 1 [1, 4] (E' := [(1, .pointer (some ⟨b1, 0, none⟩)), (4, .slice A3 l2.length n3)]) (by kernel_rfl) ?_
    refine WL.nil ?_
    refine W.seq ?_
    refine W.region ?_
    refine WL.batch 2 [1, 17, 18] (E' := [(1, .pointer (some ⟨b1, 0, none⟩)), (17, .slice A3 l2.length n3), (18, .pointer (some ⟨b1, 2, none⟩))]) (by kernel_rfl) ?_
    refine WL.value (.string p0_2) rfl rfl rfl (ex_loadOne Try.underlying9 rfl rfl h14 (Lens.skip rfl (Lens.skip rfl (Lens.head _ ([Value.string p0_2]) _) rfl) rfl)) rfl ?_
    obtain ⟨l3, q5, hm⟩ := of_let hm
    obtain ⟨c3, hm⟩ := of_guard hm
    refine WL.op rfl rfl rfl (ex_strBytesI Try.underlying23 Try.underlying9 Try.underlying5 rfl q5 c3) ?_
    rintro _ w6 ⟨A4, n4, rfl, h17, F10, s5⟩
    have h18 := (h13).fr F10 trivial
    have h19 := Fr.at F10 h14 (ApL.not (x := some b1) (S := []) trivial _ rfl)
    have h20 := (h15).fr F10 trivial
    have h21 := (h16).fr F10 trivial
    have h22 := (h12).fr F10 trivial
    have F11 := Fr.step F9 F10 trivial
    refine ⟨_, rfl, ?_⟩
    obtain ⟨l4, q6, hm⟩ := of_bind hm
    refine WL.call rfl rfl rfl (ex_callI (args := [.slice A3 l2.length n3, .slice A4 l3.length n4]) rfl rfl rfl Try.call16) (num_PutString_walk k l2 l3 A3 n3 A4 n4 _ (h22).rd h17  l4 q6) ?_
    rintro _ w7 ⟨A5, n5, rfl, F12, h23, s6⟩
    have h24 := (h18).fr F12 trivial
    have h25 := Fr.at F12 h19 (ApL.not (x := some b1) (S := []) trivial _ rfl)
    have h26 := (h20).fr F12 trivial
    have h27 := (h21).fr F12 trivial
    have h28 := (h22).fr F12 trivial
    have h29 := (h17).fr F12 trivial
    have F13 := Fr.step F11 F12 trivial
    refine ⟨_, _, rfl, rfl, ?_⟩
    refine WL.batch 1 [1, 4] (E' := [(1, .pointer (some ⟨b1, 0, none⟩)), (4, .slice A5 l4.length n5)]) (by kernel_rfl) ?_
    refine WL.nil ?_
    refine W.seq ?_
    refine W.regionDw (N := 13) Try_mixed rfl ?_
    intro w8 F14
    have h30 := (h24).fr F14 trivial
    have h31 := Fr.at F14 h25 (ApL.not (x := some b1) (S := []) trivial _ rfl)
    have h32 := (h26).fr F14 trivial
    have h33 := (h27).fr F14 trivial
    have h34 := (h28).fr F14 trivial
    have h35 := (h29).fr F14 trivial
    have h36 := (h23).fr F14 trivial
    have F15 := Fr.step F13 F14 trivial
    refine WD.batch (f' := 9) [0, 1, 4, 9] #[true, true, false, false, true, false, false, false, false, true, false, false, false] [1, 4, 22, 23, 26, 31] rfl (E' := [(1, .pointer (some ⟨b1, 0, none⟩)), (4, .slice A5 l4.length n5), (22, .slice A5 l4.length n5), (23, .pointer (some ⟨b1, 3, none⟩)), (26, .pointer (some ⟨b1, 4, none⟩)), (31, .pointer (some ⟨b1, 5, none⟩))]) (by kernel_rfl) ?_
    refine WD.load 2 [7, 8, 11] [3, 7, 8, 11, 12] (.int .i64 p0_3) rfl (by kernel_rfl) rfl rfl rfl (ex_loadOne Try.underlying3 rfl rfl h31 (Lens.skip rfl (Lens.skip rfl (Lens.skip rfl (Lens.head _ ([Value.int .i64 p0_3]) _) rfl) rfl) rfl)) ?_
    refine WD.batch (f' := 7) [3] #[true, true, true, true, true, false, false, false, false, true, false, false, false] [1, 4, 22, 25, 26, 31] rfl (E' := [(1, .pointer (some ⟨b1, 0, none⟩)), (4, .slice A5 l4.length n5), (22, .slice A5 l4.length n5), (25, .int .u8 (IntKind.wrap .u8 p0_3)), (26, .pointer (some ⟨b1, 4, none⟩)), (31, .pointer (some ⟨b1, 5, none⟩))]) (by kernel_rfl) ?_
    obtain ⟨x2, q7, hm⟩ := of_let hm
    rw [q7]
    refine WD.load 5 [7, 8, 11] [6, 7, 8, 11, 12] (.int .i64 p0_4) rfl (by kernel_rfl) rfl rfl rfl (ex_loadOne Try.underlying3 rfl rfl h31 (Lens.skip rfl (Lens.skip rfl (Lens.skip rfl (Lens.skip rfl (Lens.head _ ([Value.int .i64 p0_4]) _) rfl) rfl) rfl) rfl)) ?_
    refine WD.batch (f' := 5) [6] #[true, true, true, true, true, true, true, false, false, true, false, false, false] [1, 4, 22, 25, 28, 31] rfl (E' := [(1, .pointer (some ⟨b1, 0, none⟩)), (4, .slice A5 l4.length n5), (22, .slice A5 l4.length n5), (25, .int .u8 x2), (28, .int .u8 (IntKind.wrap .u8 p0_4)), (31, .pointer (some ⟨b1, 5, none⟩))]) (by kernel_rfl) ?_
    obtain ⟨x3, q8, hm⟩ := of_let hm
    rw [q8]
    obtain ⟨l5, q9, hm⟩ := of_let hm
    refine WD.opU 10 rfl (by kernel_rfl) rfl rfl (ex_sliceArrU (k1 := .i64) (k2 := .i64) (k := .u8) (v := p0_5) Try.underlying22 Try.sizeOf5 rfl (.inr ⟨rfl, rfl⟩) (.inr ⟨rfl, rfl⟩) (by decide) rfl h31 (Lens.skip rfl (Lens.skip rfl (Lens.skip rfl (Lens.skip rfl (Lens.skip rfl (Lens.head _ (ints .u8 p0_5.toList) _) rfl) rfl) rfl) rfl) rfl) q9) ?_
    rintro _ ⟨o1, n6, rfl, h37, q10, s7⟩
    refine ⟨_, rfl, ?_⟩
    refine WD.op 7 (by kernel_rfl) rfl rfl rfl rfl (ex_buildSliceI (T := 5) (k := .u8) (l2 := [x2, x3]) rfl (fun _ => by kernel_rfl) rfl rfl) ?_
    rintro _ w9 ⟨A6, n7, rfl, h38, F16, s8⟩
    have h39 := (h30).fr F16 trivial
    have h40 := Fr.at F16 h31 (ApL.not (x := some b1) (S := []) trivial _ rfl)
    have h41 := (h32).fr F16 trivial
    have h42 := (h33).fr F16 trivial
    have h43 := (h34).fr F16 trivial
    have h44 := (h35).fr F16 trivial
    have h45 := (h36).fr F16 trivial
    have h46 := (h37).fr F16 trivial
    have F17 := Fr.step F15 F16 trivial
    refine ⟨_, rfl, trivial, ?_⟩
    obtain ⟨l6, q11, hm⟩ := of_let hm
    obtain ⟨c4, hm⟩ := of_guard hm
    refine WD.op 8 (by kernel_rfl) rfl rfl rfl rfl (ex_appendI (k := .u8) (bytes := 1) Try.underlying23 (by kernel_rfl) rfl rfl h45 (h38).rd q11 c4) ?_
    rintro _ w10 ⟨A7, n8, rfl, h47, F18, s9⟩
    have h48 := (h39).fr F18 ⟨(Ap.symm (Src.ap' s6 (h18).lt trivial)), trivial⟩
    have h49 := Fr.at F18 h40 (ApL.not (x := some b1) (S := [ablk A5]) ⟨(Ap.symm (Src.ap' s6 (Lt.one (at_lt h19)) trivial)), trivial⟩ _ rfl)
    have h50 := (h41).fr F18 ⟨(Ap.symm (Src.ap' s6 (h20).lt trivial)), trivial⟩
    have h51 := (h42).fr F18 ⟨(Ap.symm (Src.ap' s6 (h21).lt trivial)), trivial⟩
    have h52 := (h43).fr F18 ⟨(Ap.symm (Src.ap' s6 (h22).lt trivial)), trivial⟩
    have h53 := (h44).fr F18 ⟨(Ap.symm (Src.ap' s6 (h17).lt trivial)), trivial⟩
    have h54 := (h46).fr F18 ⟨(Src.ap' s7 (h36).lt ⟨(Ap.symm (Src.ap' s6 (Lt.one (at_lt h19)) trivial)), trivial⟩), trivial⟩
    have h55 := (h38).fr F18 ⟨(Src.ap' s8 (h36).lt trivial), trivial⟩
    have F19 := Fr.step F17 F18 ⟨(In0.src s6 F11.size trivial), trivial⟩
    refine ⟨_, rfl, trivial, ?_⟩
    obtain ⟨l7, q12, hm⟩ := of_let hm
    obtain ⟨c5, hm⟩ := of_guard hm
    refine WD.op 11 (by kernel_rfl) rfl rfl rfl rfl (ex_appendI (k := .u8) (bytes := 1) Try.underlying23 (by kernel_rfl) rfl rfl h47 h54 q12 c5) ?_
    rintro _ w11 ⟨A8, n9, rfl, h56, F20, s10⟩
    have h57 := (h48).fr F20 ⟨(Ap.symm (Src.ap' s9 (h39).lt ⟨(Src.ap' s6 (h18).lt trivial), trivial⟩)), trivial⟩
    have h58 := Fr.at F20 h49 (ApL.not (x := some b1) (S := [ablk A7]) ⟨(Ap.symm (Src.ap' s9 (Lt.one (at_lt h40)) ⟨(Src.ap' s6 (Lt.one (at_lt h19)) trivial), trivial⟩)), trivial⟩ _ rfl)
    have h59 := (h50).fr F20 ⟨(Ap.symm (Src.ap' s9 (h41).lt ⟨(Src.ap' s6 (h20).lt trivial), trivial⟩)), trivial⟩
    have h60 := (h51).fr F20 ⟨(Ap.symm (Src.ap' s9 (h42).lt ⟨(Src.ap' s6 (h21).lt trivial), trivial⟩)), trivial⟩
    have h61 := (h52).fr F20 ⟨(Ap.symm (Src.ap' s9 (h43).lt ⟨(Src.ap' s6 (h22).lt trivial), trivial⟩)), trivial⟩
    have h62 := (h53).fr F20 ⟨(Ap.symm (Src.ap' s9 (h44).lt ⟨(Src.ap' s6 (h17).lt trivial), trivial⟩)), trivial⟩
    have h63 := (h54).fr F20 ⟨(Ap.symm (Src.ap' s9 (h46).lt ⟨(Ap.symm (Src.ap' s7 (h36).lt ⟨(Ap.symm (Src.ap' s6 (Lt.one (at_lt h19)) trivial)), trivial⟩)), trivial⟩)), trivial⟩
    have h64 := (h55).fr F20 ⟨(Ap.symm (Src.ap' s9 (h38).lt ⟨(Ap.symm (Src.ap' s8 (h36).lt trivial)), trivial⟩)), trivial⟩
    have F21 := Fr.step F19 F20 ⟨(In0.src s9 F17.size ⟨(In0.src s6 F11.size trivial), trivial⟩), trivial⟩
    refine ⟨_, rfl, trivial, ?_⟩
    refine WD.batch (f' := 0) [12] #[true, true, true, true, true, true, true, true, true, true, true, true, true] [1, 4] rfl (E' := [(1, .pointer (some ⟨b1, 0, none⟩)), (4, .slice A8 l7.length n9)]) (by kernel_rfl) ?_
    refine WD.end_ (by kernel_rfl) ?_
    refine W.seq ?_
    refine W.region ?_
    refine WL.batch 2 [34, 35] (E' := [(34, .slice A8 l7.length n9), (35, .pointer (some ⟨b1, 37, none⟩))]) (by kernel_rfl) ?_
    refine WL.value (.slice Ap0_6 p0_6.length np0_6) rfl rfl rfl (ex_loadOne Try.underlying23 rfl rfl h58 (Lens.skip rfl (Lens.skip rfl (Lens.skip rfl (Lens.skip rfl (Lens.skip rfl (Lens.skip (ivl _ _) (Lens.all _ ([Value.slice Ap0_6 p0_6.length np0_6])) rfl) rfl) rfl) rfl) rfl) rfl)) rfl ?_
    obtain ⟨l8, q13, hm⟩ := of_bind hm
    refine WL.call rfl rfl rfl (ex_callI (args := [.slice A8 l7.length n9, .slice Ap0_6 p0_6.length np0_6]) rfl rfl rfl Try.call16) (num_PutString_walk k l7 p0_6 A8 n9 Ap0_6 np0_6 _ (h56).rd h57  l8 q13) ?_
    rintro _ w12 ⟨A9, n10, rfl, F22, h65, s11⟩
    have h66 := (h57).fr F22 trivial
    have h67 := Fr.at F22 h58 (ApL.not (x := some b1) (S := []) trivial _ rfl)
    have h68 := (h59).fr F22 trivial
    have h69 := (h60).fr F22 trivial
    have h70 := (h61).fr F22 trivial
    have h71 := (h62).fr F22 trivial
    have h72 := (h63).fr F22 trivial
    have h73 := (h64).fr F22 trivial
    have h74 := (h56).fr F22 trivial
    have F23 := Fr.step F21 F22 trivial
    refine ⟨_, _, rfl, rfl, ?_⟩
    refine WL.batch 1 [4] (E' := [(4, .slice A9 l8.length n10)]) (by kernel_rfl) ?_
    refine WL.nil ?_
    refine W.seq ?_
    refine W.region ?_
    refine WL.batch 1 [4, 38] (E' := [(4, .slice A9 l8.length n10), (38, .slice A9 l8.length n10)]) (by kernel_rfl) ?_
    obtain ⟨a1, q14, hm⟩ := of_bind hm
    refine WL.call rfl rfl rfl (ex_callI (args := [.slice A9 l8.length n10]) rfl rfl rfl Try.call17) (sha_Sum_walk k l8 A9 n10 _ (h65).rd  a1 q14) ?_
    rintro _ w13 ⟨rfl, F24⟩
    have h75 := (h66).fr F24 trivial
    have h76 := Fr.at F24 h67 (ApL.not (x := some b1) (S := []) trivial _ rfl)
    have h77 := (h68).fr F24 trivial
    have h78 := (h69).fr F24 trivial
    have h79 := (h70).fr F24 trivial
    have h80 := (h71).fr F24 trivial
    have h81 := (h72).fr F24 trivial
    have h82 := (h73).fr F24 trivial
    have h83 := (h74).fr F24 trivial
    have h84 := (h65).fr F24 trivial
    have F25 := Fr.step F23 F24 trivial
    refine ⟨_, _, rfl, rfl, ?_⟩
    refine WL.op rfl rfl rfl (ex_alloc' (z := .agg (ints .u8 (Vector.replicate 32 (0 : Int)).toList).toArray) (cs := ints .u8 (Vector.replicate 32 (0 : Int)).toList) (fun _ => by kernel_rfl) (by kernel_rfl)) ?_
    rintro _ w14 ⟨b2, rfl, N2⟩
    have h85 := N2.at_
    have s12 := Src.new [] (Ge.one N2.ge)
    have h86 := (h75).fr N2.fr trivial
    have h87 := Fr.at N2.fr h76 (ApL.not (x := some b1) (S := []) trivial _ rfl)
    have h88 := (h77).fr N2.fr trivial
    have h89 := (h78).fr N2.fr trivial
    have h90 := (h79).fr N2.fr trivial
    have h91 := (h80).fr N2.fr trivial
    have h92 := (h81).fr N2.fr trivial
    have h93 := (h82).fr N2.fr trivial
    have h94 := (h83).fr N2.fr trivial
    have h95 := (h84).fr N2.fr trivial
    have F26 := Fr.step F25 N2.fr trivial
    refine ⟨_, rfl, ?_⟩
    refine WL.opS rfl rfl rfl (ex_storeObj rfl rfl Try.sizeOf22 h85 (Lens.all _ (ints .u8 a1.toList)) (ivl _ _) (ivl _ _) rfl (ints_one _ _)) ?_
    rintro w15 ⟨F27, h96⟩
    have h97 := (h86).fr F27 ⟨(Ap.symm (Src.ap' s12 (h75).lt trivial)), trivial⟩
    have h98 := Fr.at F27 h87 (ApL.not (x := some b1) (S := [some b2]) ⟨(Ap.symm (Src.ap' s12 (Lt.one (at_lt h76)) trivial)), trivial⟩ _ rfl)
    have h99 := (h88).fr F27 ⟨(Ap.symm (Src.ap' s12 (h77).lt trivial)), trivial⟩
    have h100 := (h89).fr F27 ⟨(Ap.symm (Src.ap' s12 (h78).lt trivial)), trivial⟩
    have h101 := (h90).fr F27 ⟨(Ap.symm (Src.ap' s12 (h79).lt trivial)), trivial⟩
    have h102 := (h91).fr F27 ⟨(Ap.symm (Src.ap' s12 (h80).lt trivial)), trivial⟩
    have h103 := (h92).fr F27 ⟨(Ap.symm (Src.ap' s12 (h81).lt trivial)), trivial⟩
    have h104 := (h93).fr F27 ⟨(Ap.symm (Src.ap' s12 (h82).lt trivial)), trivial⟩
    have h105 := (h94).fr F27 ⟨(Ap.symm (Src.ap' s12 (h83).lt trivial)), trivial⟩
    have h106 := (h95).fr F27 ⟨(Ap.symm (Src.ap' s12 (h84).lt trivial)), trivial⟩
    have F28 := Fr.step F26 F27 ⟨(In0.src s12 F25.size trivial), trivial⟩
    refine ⟨_, rfl, ?_⟩
    refine WL.nil ?_
    refine W.seq ?_
    refine W.region ?_
    refine WL.batch 1 [5, 40] (E' := [(5, .pointer (some ⟨b2, 0, none⟩)), (40, .slice A9 l8.length n10)]) (by kernel_rfl) ?_
    obtain ⟨l9, q15, hm⟩ := of_let hm
    refine WL.opU rfl rfl rfl (ex_sliceArrU (k1 := .i64) (k2 := .i64) (k := .u8) (v := a1) Try.underlying22 Try.sizeOf5 rfl (.inr ⟨rfl, rfl⟩) (.inl rfl) (by decide) rfl h96 (Lens.all _ (ints .u8 a1.toList)) q15) ?_
    rintro _ ⟨o2, n11, rfl, h107, q16, s13⟩
    refine ⟨_, rfl, ?_⟩
    obtain ⟨l10, q17, hm⟩ := of_let hm
    obtain ⟨c6, hm⟩ := of_guard hm
    refine WL.op rfl rfl rfl (ex_appendI (k := .u8) (bytes := 1) Try.underlying23 (by kernel_rfl) rfl rfl h106 h107 q17 c6) ?_
    rintro _ w16 ⟨A10, n12, rfl, h108, F29, s14⟩
    have h109 := (h97).fr F29 ⟨(Ap.symm (Src.ap' s11 (h57).lt trivial)), trivial⟩
    have h110 := Fr.at F29 h98 (ApL.not (x := some b1) (S := [ablk A9]) ⟨(Ap.symm (Src.ap' s11 (Lt.one (at_lt h58)) trivial)), trivial⟩ _ rfl)
    have h111 := (h99).fr F29 ⟨(Ap.symm (Src.ap' s11 (h59).lt trivial)), trivial⟩
    have h112 := (h100).fr F29 ⟨(Ap.symm (Src.ap' s11 (h60).lt trivial)), trivial⟩
    have h113 := (h101).fr F29 ⟨(Ap.symm (Src.ap' s11 (h61).lt trivial)), trivial⟩
    have h114 := (h102).fr F29 ⟨(Ap.symm (Src.ap' s11 (h62).lt trivial)), trivial⟩
    have h115 := (h103).fr F29 ⟨(Ap.symm (Src.ap' s11 (h63).lt trivial)), trivial⟩
    have h116 := (h104).fr F29 ⟨(Ap.symm (Src.ap' s11 (h64).lt trivial)), trivial⟩
    have h117 := (h105).fr F29 ⟨(Ap.symm (Src.ap' s11 (h56).lt trivial)), trivial⟩
    have h118 := Fr.at F29 h96 (ApL.not (x := some b2) (S := [ablk A9]) ⟨(Src.ap' s12 (h84).lt trivial), trivial⟩ _ rfl)
    have h119 := (h107).fr F29 ⟨(Src.ap' s13 (h106).lt ⟨(Src.ap' s12 (h84).lt trivial), trivial⟩), trivial⟩
    have F30 := Fr.step F28 F29 ⟨(In0.src s11 F21.size trivial), trivial⟩
    refine ⟨_, rfl, ?_⟩
    refine WL.batch 2 [2, 3] (E' := [(2, .slice A10 l10.length n12), (3, .int .i64 0)]) (by kernel_rfl) ?_
    refine WL.nil ?_
    refine W.ret ?_
    obtain ⟨q0a, q0b⟩ := Prod.mk.inj (Option.some.inj hm)
    subst q0a
    subst q0b
    exact ⟨_, ⟨_, _, rfl, rfl, ⟨_, _, rfl, rfl, rfl⟩⟩, ⟨A10, n12, rfl, F30, h108, (Src.trans' s14 F28.size ⟨(Src.trans' s11 F21.size trivial), trivial⟩)⟩⟩

/- bytes.Equal -/
theorem bytes_Equal_walk (p0 : List Int) (p1 : List Int) (Ap0 : Option Addr) (np0 : Nat) (Ap1 : Option Addr) (np1 : Nat) (w : World) (hp0 : Rd w 1 Ap0 p0.length np0 (ints .u8 p0)) (hp1 : Rd w 1 Ap1 p1.length np1 (ints .u8 p1)) (r0 : Bool) (hm : bytes_Equal.f p0 p1 = some r0) :
    Calls Try.prog 22 #[.slice Ap0 p0.length np0, .slice Ap1 p1.length np1] w fun e w' => e = .returned (.bool r0) ∧ Fr [] w w' := by
  have F0 := Fr.refl [] w
  unfold bytes_Equal.f at hm
  refine W.enter (args := [.slice Ap0 p0.length np0, .slice Ap1 p1.length np1]) Try.func22 rfl (n := 10) rfl rfl ?_
  refine W.seq ?_
  refine W.region ?_
  refine WL.batch 1 [0, 1] (E' := [(0, .slice Ap0 p0.length np0), (1, .slice Ap1 p1.length np1)]) (by kernel_rfl) ?_
  refine WL.nil ?_
  refine W.seq ?_
  refine W.region ?_
  refine WL.batch 1 [1, 5] (E' := [(1, .slice Ap1 p1.length np1), (5, .slice Ap0 p0.length np0)]) (by kernel_rfl) ?_
  refine WL.value (.string (strOf p0)) rfl rfl rfl (ex_bytesStr Try.underlying23 Try.underlying9 Try.underlying5 rfl hp0) rfl ?_
  obtain ⟨s1, q1, hm⟩ := of_let hm
  rw [q1]
  refine WL.batch 1 [6, 7] (E' := [(6, .string s1), (7, .slice Ap1 p1.length np1)]) (by kernel_rfl) ?_
  refine WL.value (.string (strOf p1)) rfl rfl rfl (ex_bytesStr Try.underlying23 Try.underlying9 Try.underlying5 rfl hp1) rfl ?_
  obtain ⟨s2, q2, hm⟩ := of_let hm
  rw [q2]
  refine WL.batch 2 [4] (E' := [(4, .bool (s1.toList == s2.toList))]) (by kernel_rfl) ?_
  refine WL.nil ?_
  refine W.ret ?_
  obtain rfl := Option.some.inj hm
  exact ⟨_, ⟨_, _, rfl, rfl, rfl⟩, ⟨rfl, F0⟩⟩

/- cautery/num.isShort -/
theorem num_isShort_walk (p0 : Int) (p1 : Int)  (w : World) (r0 : Bool) (hm : num_isShort.f p0 p1 = some r0) :
    Calls Try.prog 46 #[.int .i64 p0, .int .u8 p1] w fun e w' => e = .returned (.bool r0) ∧ Fr [] w w' := by
  have F0 := Fr.refl [] w
  unfold num_isShort.f at hm
  refine W.enter (args := [.int .i64 p0, .int .u8 p1]) Try.func46 rfl (n := 19) rfl rfl ?_
  refine W.seq ?_
  refine W.region ?_
  refine WL.batch 1 [0, 1] (E' := [(0, .int .i64 p0), (1, .int .u8 p1)]) (by kernel_rfl) ?_
  refine WL.nil ?_
  refine W.seq ?_
  refine W.region ?_
  refine WL.batch 3 [0, 1, 7] (E' := [(0, .int .i64 p0), (1, .int .u8 p1), (7, .bool (p0 == (0 : Int)))]) (by kernel_rfl) ?_
  rcases of_cond hm with ⟨c1, hm⟩ | ⟨c1, hm⟩
  · rw [c1]
    refine WL.batch 12 [4] (E' := [(4, .bool true)]) (by kernel_rfl) ?_
    refine WL.nil ?_
    refine W.ret ?_
    obtain rfl := Option.some.inj hm
    exact ⟨_, ⟨_, _, rfl, rfl, rfl⟩, ⟨rfl, F0⟩⟩
  · rw [c1]
    refine WL.batch 3 [0, 1, 7, 10] (E' := [(0, .int .i64 p0), (1, .int .u8 p1), (7, .bool false), (10, .bool (p1 != (0 : Int)))]) (by kernel_rfl) ?_
    rcases of_cond hm with ⟨c2, hm⟩ | ⟨c2, hm⟩
    · rw [c2]
      refine WL.batch 3 [1, 7, 10, 13] (E' := [(1, .int .u8 p1), (7, .bool false), (10, .bool true), (13, .bool (decide (p0 < (9 : Int))))]) (by kernel_rfl) ?_
      rcases of_cond hm with ⟨c3, hm⟩ | ⟨c3, hm⟩
      · rw [c3]
        refine WL.batch 6 [4] (E' := [(4, .bool true)]) (by kernel_rfl) ?_
        refine WL.nil ?_
        refine W.ret ?_
        obtain rfl := Option.some.inj hm
        exact ⟨_, ⟨_, _, rfl, rfl, rfl⟩, ⟨rfl, F0⟩⟩
      · rw [c3]
        refine WL.batch 6 [4] (E' := [(4, .bool (p1 == (1 : Int)))]) (by kernel_rfl) ?_
        refine WL.nil ?_
        refine W.ret ?_
        obtain rfl := Option.some.inj hm
        exact ⟨_, ⟨_, _, rfl, rfl, rfl⟩, ⟨rfl, F0⟩⟩
    · rw [c2]
      refine WL.batch 9 [4] (E' := [(4, .bool false)]) (by kernel_rfl) ?_
      refine WL.nil ?_
      refine W.ret ?_
      obtain rfl := Option.some.inj hm
      exact ⟨_, ⟨_, _, rfl, rfl, rfl⟩, ⟨rfl, F0⟩⟩

/- bytes.Clone -/
theorem bytes_Clone_walk (p0 : List Int) (Ap0 : Option Addr) (np0 : Nat) (w : World) (hp0 : Rd w 1 Ap0 p0.length np0 (ints .u8 p0)) (r0 : List Int) (hm : bytes_Clone.f p0 = some r0) :
    Calls Try.prog 47 #[.slice Ap0 p0.length np0] w fun e w' => ∃ (A0 : Option Addr) (n0 : Nat), e = .returned (.slice A0 r0.length n0) ∧ Fr [] w w' ∧ Own w' 5 1 A0 r0.length n0 (ints .u8 r0) ∧ Src (ablk A0) w.heap.size [] := by
  have F0 := Fr.refl [] w
  unfold bytes_Clone.f at hm
  refine W.enter (args := [.slice Ap0 p0.length np0]) Try.func47 rfl (n := 8) rfl rfl ?_
  refine W.seq ?_
  refine W.region ?_
  refine WL.batch 1 [0] (E' := [(0, .slice Ap0 p0.length np0)]) (by kernel_rfl) ?_
  refine WL.nil ?_
  refine W.seq ?_
  refine W.seq ?_
  refine W.region ?_
  cases Ap0 with
  | none =>
    have h0 : p0.length = 0 := by
      rcases hp0.mem with h | ⟨b, o, pre, post, T, fr, hA, _⟩
      · exact h
      · exact absurd hA (by simp)
    have h1 : p0 = [] := List.eq_nil_of_length_eq_zero h0
    subst h1
    refine WL.batch 2 [4] (E' := [(4, .bool true)]) (by kernel_rfl) ?_
    refine WL.nil ?_
    refine W.condT _ rfl rfl ?_
    refine W.seq ?_
    refine W.region ?_
    refine WL.batch 1 [2] (E' := [(2, .slice none 0 0)]) (by kernel_rfl) ?_
    refine WL.nil ?_
    refine W.ret ?_
    have hr : r0 = [] := by simpa using hm.symm
    subst hr
    exact ⟨_, ⟨_, _, rfl, rfl, rfl⟩, ⟨none, 0, rfl, F0, Own.nil _ _ _, .inl rfl⟩⟩
  | some a =>
    refine WL.batch 2 [0, 4] (E' := [(0, .slice (some a) p0.length np0), (4, .bool false)]) (by kernel_rfl) ?_
    refine WL.nil ?_
    refine W.condF _ rfl rfl ?_
    refine W.skip ?_
    refine W.seq ?_
    refine W.region ?_
    refine WL.op rfl rfl rfl (ex_buildSliceI (T := 5) (k := .u8) (l2 := ([] : List Int)) rfl (fun _ => by kernel_rfl) rfl rfl) ?_
    rintro _ w1 ⟨A1, n1, rfl, h1, F1, s1⟩
    have h2 := (hp0).fr F1 trivial
    have F2 := Fr.step F0 F1 trivial
    refine ⟨_, rfl, ?_⟩
    refine WL.batch 1 [5, 6] (E' := [(5, .slice A1 ([] : List Int).length n1), (6, .slice (some a) p0.length np0)]) (by kernel_rfl) ?_
    obtain ⟨l1, q1, hm⟩ := of_let hm
    obtain ⟨c1, hm⟩ := of_guard hm
    refine WL.op rfl rfl rfl (ex_appendI (k := .u8) (bytes := 1) Try.underlying23 (by kernel_rfl) rfl rfl h1 h2 q1 c1) ?_
    rintro _ w2 ⟨A2, n2, rfl, h3, F3, s2⟩
    have h4 := (h2).fr F3 ⟨(Ap.symm (Src.ap' s1 (hp0).lt trivial)), trivial⟩
    have F4 := Fr.step F2 F3 ⟨(In0.src s1 (Nat.le_refl _) trivial), trivial⟩
    refine ⟨_, rfl, ?_⟩
    refine WL.batch 1 [2] (E' := [(2, .slice A2 l1.length n2)]) (by kernel_rfl) ?_
    refine WL.nil ?_
    refine W.ret ?_
    obtain rfl := Option.some.inj hm
    exact ⟨_, ⟨_, _, rfl, rfl, rfl⟩, ⟨A2, n2, rfl, F4, h3, (Src.trans' s2 F2.size ⟨(Src.trans' s1 (Nat.le_refl _) trivial), trivial⟩)⟩⟩

/- cautery/num.Take -/
theorem num_Take_walk (k : Nat) (p0 : List Int) (Ap0 : Option Addr) (np0 : Nat) (w : World) (hp0 : Rd w 1 Ap0 p0.length np0 (ints .u8 p0)) (r0 : Int) (r1 : List Int) (r2 : Int) (hm : num_Take.f k p0 = some (r0, r1, r2)) :
    Calls Try.prog 42 #[.slice Ap0 p0.length np0] w fun e w' => ∃ (A1 : Option Addr) (n1 : Nat), e = .returned (.tuple #[.int .u64 r0, .slice A1 r1.length n1, .int .i64 r2]) ∧ Fr [] w w' ∧ Own w' 5 1 A1 r1.length n1 (ints .u8 r1) ∧ Src (ablk A1) w.heap.size [] := by
  have F0 := Fr.refl [] w
  unfold num_Take.f at hm
  refine W.enter (args := [.slice Ap0 p0.length np0]) Try.func42 rfl (n := 44) rfl rfl ?_
  refine W.seq ?_
  refine W.region ?_
  refine WL.batch 3 [0] (E' := [(0, .slice Ap0 p0.length np0)]) (by kernel_rfl) ?_
  refine WL.nil ?_
  refine W.seq ?_
  refine W.region ?_
  refine WL.batch 1 [0, 5] (E' := [(0, .slice Ap0 p0.length np0), (5, .int .u64 0)]) (by kernel_rfl) ?_
  refine WL.nil ?_
  refine W.seq ?_
  refine W.seq ?_
  refine W.region ?_
  refine WL.batch 4 [0, 5, 8, 11] (E' := [(0, .slice Ap0 p0.length np0), (5, .int .u64 0), (8, .slice Ap0 p0.length np0), (11, .int .i64 (wmin (p0.length : Int) 10))]) (by kernel_rfl) ?_
  obtain ⟨x1, q1, hm⟩ := of_let hm
  rw [q1]
  obtain ⟨⟨c1, c2, c3⟩, hm⟩ := of_guard hm
  obtain ⟨l1, q2, hm⟩ := of_let hm
  refine WL.opU rfl rfl rfl (ex_sliceU (k1 := .i64) (k2 := .i64) (k := .u8) Try.underlying23 Try.sizeOf5 rfl (.inr ⟨rfl, rfl⟩) (.inl rfl) ⟨c1, c2, c3⟩ hp0 q2) ?_
  rintro _ ⟨A1, n1, rfl, h1, s1⟩
  refine ⟨_, rfl, ?_⟩
  refine WL.batch 2 [0, 5, 12, 13, 14] (E' := [(0, .slice Ap0 p0.length np0), (5, .int .u64 0), (12, .slice A1 l1.length n1), (13, .int .i64 (l1.length : Int)), (14, .int .i64 0)]) (by kernel_rfl) ?_
  refine WL.nil ?_
  obtain ⟨ex1, hm1, hm2⟩ := of_bind hm
  refine W.joinN (fun E w1 => Env.sub E [(0, .slice Ap0 p0.length np0)] ∧ Rd w1 1 Ap0 p0.length np0 (ints .u8 p0) ∧ Rd w1 1 A1 l1.length n1 (ints .u8 l1) ∧ Fr [] w w1 ∧ Ex.go () = ex1) ?_ (fun rest1 => ?_)
  · rintro _ w1 ⟨hE, h2, h3, F1, rfl⟩
    replace hm := hm2
    clear hm1
    refine W.sub ?_ hE
    refine W.seq ?_
    refine W.seq ?_
    refine W.region ?_
    refine WL.batch 3 [43] (E' := [(43, .bool (decide ((p0.length : Int) ≥ (10 : Int))))]) (by kernel_rfl) ?_
    refine WL.nil ?_
    rcases of_cond hm with ⟨c4, hm⟩ | ⟨c4, hm⟩
    · refine W.condT _ rfl c4 ?_
      refine W.seq ?_
      refine W.region ?_
      refine WL.batch 3 [2, 3, 4] (E' := [(2, .int .u64 0), (3, .slice none 0 0), (4, .int .i64 3)]) (by kernel_rfl) ?_
      refine WL.nil ?_
      refine W.ret ?_
      obtain ⟨q0a, q0b⟩ := Prod.mk.inj (Option.some.inj hm)
      obtain ⟨q1a, q1b⟩ := Prod.mk.inj (q0b)
      subst q0a
      subst q1a
      subst q1b
      exact ⟨_, ⟨_, _, rfl, rfl, ⟨_, _, rfl, rfl, ⟨_, _, rfl, rfl, rfl⟩⟩⟩, ⟨none, 0, rfl, F1, (Own.nil _ _ _), (.inl (by simp [ablk, rblk]))⟩⟩
    · refine W.condF _ rfl c4 ?_
      refine W.skip ?_
      refine W.seq ?_
      refine W.region ?_
      refine WL.batch 3 [2, 3, 4] (E' := [(2, .int .u64 0), (3, .slice none 0 0), (4, .int .i64 2)]) (by kernel_rfl) ?_
      refine WL.nil ?_
      refine W.ret ?_
      obtain ⟨q0a, q0b⟩ := Prod.mk.inj (Option.some.inj hm)
      obtain ⟨q1a, q1b⟩ := Prod.mk.inj (q0b)
      subst q0a
      subst q1a
      subst q1b
      exact ⟨_, ⟨_, _, rfl, rfl, ⟨_, _, rfl, rfl, ⟨_, _, rfl, rfl, rfl⟩⟩⟩, ⟨none, 0, rfl, F1, (Own.nil _ _ _), (.inl (by simp [ablk, rblk]))⟩⟩
  · replace hm := hm1
    clear hm1
    refine W.block ?_
    refine W.loop (fun j1 E w2 => ∃ (x2 : Int) (x3 : Int), Env.sub E [(0, .slice Ap0 p0.length np0), (5, .int .u64 x2), (12, .slice A1 l1.length n1), (13, .int .i64 (l1.length : Int)), (14, .int .i64 x3)] ∧ Rd w2 1 Ap0 p0.length np0 (ints .u8 p0) ∧ Rd w2 1 A1 l1.length n1 (ints .u8 l1) ∧ Fr [] w w2 ∧ num_Take.l0 p0 l1 j1 x2 x3 = some ex1) ?_ k ?_ ?_
    · rintro _ _ ⟨_, _, _, _, _, _, hz⟩
      exact absurd hz (by simp [num_Take.l0])
    · exact ⟨0, 0, ⟨rfl, rfl, rfl, rfl, rfl, trivial⟩, hp0, h1, F0, hm⟩
    · rintro j1 _ w2 ⟨x2, x3, hE, h4, h5, F2, hm⟩
      rw [num_Take.l0] at hm
      refine W.sub ?_ hE
      refine W.seq ?_
      refine W.region ?_
      refine WL.batch 1 [0, 5, 12, 13, 14, 15] (E' := [(0, .slice Ap0 p0.length np0), (5, .int .u64 x2), (12, .slice A1 l1.length n1), (13, .int .i64 (l1.length : Int)), (14, .int .i64 x3), (15, .bool (decide (x3 < ((l1.length : Int) : Int))))]) (by kernel_rfl) ?_
      refine WL.nil ?_
      refine W.seq ?_
      rcases of_cond hm with ⟨c5, hm⟩ | ⟨c5, hm⟩
      · refine W.condT _ rfl c5 ?_
        refine W.skip ?_
        refine W.seq ?_
        refine W.block ?_
        refine W.seq ?_
        refine W.region ?_
        refine WL.batch 1 [0, 5, 12, 13, 14, 16] (E' := [(0, .slice Ap0 p0.length np0), (5, .int .u64 x2), (12, .slice A1 l1.length n1), (13, .int .i64 (l1.length : Int)), (14, .int .i64 x3), (16, .int .i64 x3)]) (by kernel_rfl) ?_
        obtain ⟨⟨c6, c7⟩, hm⟩ := of_guard hm
        obtain ⟨b1, o1, q3⟩ := Rd.place h5 (by omega)
        refine WL.value (.pointer (some ⟨b1, o1 + Int.toNat x3 * 1, none⟩)) rfl rfl rfl (ex_indexAddr Try.underlying23 Try.sizeOf5 rfl q3 rfl c6 c7) rfl ?_
        refine WL.value (.int .u8 (lget l1 x3)) rfl rfl rfl (ex_loadElI Try.underlying5 rfl h5 q3 c6 c7) rfl ?_
        refine WL.batch 2 [0, 5, 6, 7, 12, 13, 14] (E' := [(0, .slice Ap0 p0.length np0), (5, .int .u64 x2), (6, .int .i64 x3), (7, .int .u8 (lget l1 x3)), (12, .slice A1 l1.length n1), (13, .int .i64 (l1.length : Int)), (14, .int .i64 x3)]) (by kernel_rfl) ?_
        obtain ⟨x4, q4, hm⟩ := of_let hm
        rw [q4]
        refine WL.nil ?_
        refine W.seq ?_
        refine W.region ?_
        refine WL.batch 6 [0, 6, 7, 12, 13, 14, 19, 22, 24] (E' := [(0, .slice Ap0 p0.length np0), (6, .int .i64 x3), (7, .int .u8 x4), (12, .slice A1 l1.length n1), (13, .int .i64 (l1.length : Int)), (14, .int .i64 x3), (19, .int .u64 x2), (22, .int .u64 (IntKind.wrap .u64 (wandn .u8 x4 128))), (24, .int .i64 (wmul .i64 7 x3))]) (by kernel_rfl) ?_
        obtain ⟨x5, q5, hm⟩ := of_let hm
        rw [q5]
        obtain ⟨x6, q6, hm⟩ := of_let hm
        rw [q6]
        obtain ⟨c8, hm⟩ := of_guard hm
        refine WL.value (.int .u64 (wshl .u64 x5 x6)) rfl rfl rfl (ex_shl rfl rfl c8) rfl ?_
        refine WL.batch 2 [0, 5, 6, 7, 12, 13, 14] (E' := [(0, .slice Ap0 p0.length np0), (5, .int .u64 (wor .u64 x2 (wshl .u64 x5 x6))), (6, .int .i64 x3), (7, .int .u8 x4), (12, .slice A1 l1.length n1), (13, .int .i64 (l1.length : Int)), (14, .int .i64 x3)]) (by kernel_rfl) ?_
        obtain ⟨x7, q7, hm⟩ := of_let hm
        rw [q7]
        refine WL.nil ?_
        refine W.seq ?_
        refine W.seq ?_
        refine W.region ?_
        refine WL.batch 3 [0, 5, 6, 7, 12, 13, 14, 29] (E' := [(0, .slice Ap0 p0.length np0), (5, .int .u64 x7), (6, .int .i64 x3), (7, .int .u8 x4), (12, .slice A1 l1.length n1), (13, .int .i64 (l1.length : Int)), (14, .int .i64 x3), (29, .bool ((wand .u8 x4 128) != (0 : Int)))]) (by kernel_rfl) ?_
        refine WL.nil ?_
        rcases of_cond hm with ⟨c9, hm⟩ | ⟨c9, hm⟩
        · refine W.condT _ rfl c9 ?_
          refine W.exit ?_
          refine W.region ?_
          refine WL.batch 2 [0, 5, 12, 13, 14] (E' := [(0, .slice Ap0 p0.length np0), (5, .int .u64 x7), (12, .slice A1 l1.length n1), (13, .int .i64 (l1.length : Int)), (14, .int .i64 (wadd .i64 x3 1))]) (by kernel_rfl) ?_
          obtain ⟨x8, q8, hm⟩ := of_let hm
          rw [q8]
          refine WL.nil ?_
          exact ⟨x7, x8, ⟨rfl, rfl, rfl, rfl, rfl, trivial⟩, h4, h5, F2, hm⟩
        · refine W.condF _ rfl c9 ?_
          refine W.skip ?_
          refine W.seq ?_
          refine W.seq ?_
          refine W.region ?_
          refine WL.batch 2 [0, 5, 6, 30, 31] (E' := [(0, .slice Ap0 p0.length np0), (5, .int .u64 x7), (6, .int .i64 x3), (30, .int .i64 x3), (31, .int .u8 x4)]) (by kernel_rfl) ?_
          obtain ⟨y1, q9, hm⟩ := of_bind hm
          refine WL.call rfl rfl rfl (ex_callI (args := [.int .i64 x3, .int .u8 x4]) rfl rfl rfl Try.call46) (num_isShort_walk x3 x4  _   y1 q9) ?_
          rintro _ w3 ⟨rfl, F3⟩
          have h6 := (h4).fr F3 trivial
          have h7 := (h5).fr F3 trivial
          have F4 := Fr.step F2 F3 trivial
          refine ⟨_, _, rfl, rfl, ?_⟩
          refine WL.batch 1 [0, 5, 6, 33] (E' := [(0, .slice Ap0 p0.length np0), (5, .int .u64 x7), (6, .int .i64 x3), (33, .bool (!y1))]) (by kernel_rfl) ?_
          refine WL.nil ?_
          rcases of_cond hm with ⟨c10, hm⟩ | ⟨c10, hm⟩
          · refine W.condT _ rfl c10 ?_
            refine W.seq ?_
            refine W.region ?_
            refine WL.batch 3 [2, 3, 4] (E' := [(2, .int .u64 0), (3, .slice none 0 0), (4, .int .i64 3)]) (by kernel_rfl) ?_
            refine WL.nil ?_
            refine W.ret ?_
            obtain rfl := Option.some.inj hm
            replace hm := hm2
            obtain ⟨q0a, q0b⟩ := Prod.mk.inj (Option.some.inj hm)
            obtain ⟨q1a, q1b⟩ := Prod.mk.inj (q0b)
            subst q0a
            subst q1a
            subst q1b
            exact ⟨_, ⟨_, _, rfl, rfl, ⟨_, _, rfl, rfl, ⟨_, _, rfl, rfl, rfl⟩⟩⟩, ⟨none, 0, rfl, F4, (Own.nil _ _ _), (.inl (by simp [ablk, rblk]))⟩⟩
          · refine W.condF _ rfl c10 ?_
            refine W.skip ?_
            refine W.seq ?_
            refine W.region ?_
            refine WL.batch 4 [34, 35, 37] (E' := [(34, .int .u64 x7), (35, .slice Ap0 p0.length np0), (37, .int .i64 (wadd .i64 x3 1))]) (by kernel_rfl) ?_
            obtain ⟨x9, q10, hm⟩ := of_let hm
            rw [q10]
            obtain ⟨⟨c11, c12, c13⟩, hm⟩ := of_guard hm
            obtain ⟨l2, q11, hm⟩ := of_let hm
            refine WL.opU rfl rfl rfl (ex_sliceU (k1 := .i64) (k2 := .i64) (k := .u8) Try.underlying23 Try.sizeOf5 rfl (.inl rfl) (.inr ⟨rfl, rfl⟩) ⟨c11, c12, c13⟩ h6 q11) ?_
            rintro _ ⟨A2, n2, rfl, h8, s2⟩
            refine ⟨_, rfl, ?_⟩
            obtain ⟨l3, q12, hm⟩ := of_bind hm
            refine WL.call rfl rfl rfl (ex_callI (args := [.slice A2 l2.length n2]) rfl rfl rfl Try.call47) (bytes_Clone_walk l2 A2 n2 _ h8  l3 q12) ?_
            rintro _ w4 ⟨A3, n3, rfl, F5, h9, s3⟩
            have h10 := (h6).fr F5 trivial
            have h11 := (h7).fr F5 trivial
            have h12 := (h8).fr F5 trivial
            have F6 := Fr.step F4 F5 trivial
            refine ⟨_, _, rfl, rfl, ?_⟩
            refine WL.batch 3 [2, 3, 4] (E' := [(2, .int .u64 x7), (3, .slice A3 l3.length n3), (4, .int .i64 0)]) (by kernel_rfl) ?_
            refine WL.nil ?_
            refine W.ret ?_
            obtain rfl := Option.some.inj hm
            replace hm := hm2
            obtain ⟨q0a, q0b⟩ := Prod.mk.inj (Option.some.inj hm)
            obtain ⟨q1a, q1b⟩ := Prod.mk.inj (q0b)
            subst q0a
            subst q1a
            subst q1b
            exact ⟨_, ⟨_, _, rfl, rfl, ⟨_, _, rfl, rfl, ⟨_, _, rfl, rfl, rfl⟩⟩⟩, ⟨A3, n3, rfl, F6, h9, (Src.trans' s3 F4.size trivial)⟩⟩
      · refine W.condF _ rfl c5 ?_
        refine W.exit ?_
        exact rest1 _ _ ⟨⟨rfl, trivial⟩, h4, h5, F2, (Option.some.inj hm)⟩

/- cautery/num.TakeBytes -/
theorem num_TakeBytes_walk (p0 : List Int) (p1 : Int) (Ap0 : Option Addr) (np0 : Nat) (w : World) (hp0 : Rd w 1 Ap0 p0.length np0 (ints .u8 p0)) (r0 : List Int) (r1 : List Int) (r2 : Int) (hm : num_TakeBytes.f p0 p1 = some (r0, r1, r2)) :
    Calls Try.prog 43 #[.slice Ap0 p0.length np0, .int .i64 p1] w fun e w' => ∃ (A0 : Option Addr) (n0 : Nat) (A1 : Option Addr) (n1 : Nat), e = .returned (.tuple #[.slice A0 r0.length n0, .slice A1 r1.length n1, .int .i64 r2]) ∧ Fr [] w w' ∧ Own w' 5 1 A0 r0.length n0 (ints .u8 r0) ∧ Src (ablk A0) w.heap.size [] ∧ Own w' 5 1 A1 r1.length n1 (ints .u8 r1) ∧ Src (ablk A1) w.heap.size [] ∧ Ap (ablk A0) (ablk A1) := by
  have F0 := Fr.refl [] w
  unfold num_TakeBytes.f at hm
  refine W.enter (args := [.slice Ap0 p0.length np0, .int .i64 p1]) Try.func43 rfl (n := 23) rfl rfl ?_
  refine W.seq ?_
  refine W.region ?_
  refine WL.batch 3 [0, 1] (E' := [(0, .slice Ap0 p0.length np0), (1, .int .i64 p1)]) (by kernel_rfl) ?_
  refine WL.nil ?_
  refine W.seq ?_
  refine W.block ?_
  refine W.seq ?_
  refine W.region ?_
  refine WL.batch 3 [0, 1, 7] (E' := [(0, .slice Ap0 p0.length np0), (1, .int .i64 p1), (7, .bool (decide (p1 < (0 : Int))))]) (by kernel_rfl) ?_
  refine WL.nil ?_
  rcases of_cond hm with ⟨c1, hm⟩ | ⟨c1, hm⟩
  · refine W.condT _ rfl c1 ?_
    refine W.seq ?_
    refine W.region ?_
    refine WL.batch 3 [4, 5, 6] (E' := [(4, .slice none 0 0), (5, .slice none 0 0), (6, .int .i64 1)]) (by kernel_rfl) ?_
    refine WL.nil ?_
    refine W.ret ?_
    obtain ⟨q0a, q0b⟩ := Prod.mk.inj (Option.some.inj hm)
    obtain ⟨q1a, q1b⟩ := Prod.mk.inj (q0b)
    subst q0a
    subst q1a
    subst q1b
    exact ⟨_, ⟨_, _, rfl, rfl, ⟨_, _, rfl, rfl, ⟨_, _, rfl, rfl, rfl⟩⟩⟩, ⟨none, 0, none, 0, rfl, F0, (Own.nil _ _ _), (.inl (by simp [ablk, rblk])), (Own.nil _ _ _), (.inl (by simp [ablk, rblk])), (fun _ h => by simp [ablk, rblk] at h)⟩⟩
  · refine W.condF _ rfl c1 ?_
    refine W.seq ?_
    refine W.region ?_
    refine WL.batch 5 [0, 1, 10] (E' := [(0, .slice Ap0 p0.length np0), (1, .int .i64 p1), (10, .bool (decide (p1 > ((p0.length : Int) : Int))))]) (by kernel_rfl) ?_
    refine WL.nil ?_
    rcases of_cond hm with ⟨c2, hm⟩ | ⟨c2, hm⟩
    · refine W.condT _ rfl c2 ?_
      refine W.seq ?_
      refine W.region ?_
      refine WL.batch 3 [4, 5, 6] (E' := [(4, .slice none 0 0), (5, .slice none 0 0), (6, .int .i64 2)]) (by kernel_rfl) ?_
      refine WL.nil ?_
      refine W.ret ?_
      obtain ⟨q0a, q0b⟩ := Prod.mk.inj (Option.some.inj hm)
      obtain ⟨q1a, q1b⟩ := Prod.mk.inj (q0b)
      subst q0a
      subst q1a
      subst q1b
      exact ⟨_, ⟨_, _, rfl, rfl, ⟨_, _, rfl, rfl, ⟨_, _, rfl, rfl, rfl⟩⟩⟩, ⟨none, 0, none, 0, rfl, F0, (Own.nil _ _ _), (.inl (by simp [ablk, rblk])), (Own.nil _ _ _), (.inl (by simp [ablk, rblk])), (fun _ h => by simp [ablk, rblk] at h)⟩⟩
    · refine W.condF _ rfl c2 ?_
      refine W.skip ?_
      refine W.seq ?_
      refine W.regionDw (N := 11) Try_mixed rfl ?_
      intro w1 F1
      have h1 := (hp0).fr F1 trivial
      have F2 := Fr.step F0 F1 trivial
      refine WD.batch (f' := 7) [0, 1, 4, 5] #[true, true, false, false, true, true, false, false, false, false, false] [15, 16, 19, 20] rfl (E' := [(15, .slice Ap0 p0.length np0), (16, .int .i64 p1), (19, .slice Ap0 p0.length np0), (20, .int .i64 p1)]) (by kernel_rfl) ?_
      obtain ⟨⟨c3, c4, c5⟩, hm⟩ := of_guard hm
      obtain ⟨l1, q1, hm⟩ := of_let hm
      refine WD.opU 2 rfl (by kernel_rfl) rfl rfl (ex_sliceU (k1 := .i64) (k2 := .i64) (k := .u8) Try.underlying23 Try.sizeOf5 rfl (.inr ⟨rfl, rfl⟩) (.inl rfl) ⟨c3, c4, c5⟩ h1 q1) ?_
      rintro _ ⟨A1, n1, rfl, h2, s1⟩
      refine ⟨_, rfl, ?_⟩
      obtain ⟨⟨c6, c7, c8⟩, hm⟩ := of_guard hm
      obtain ⟨l2, q2, hm⟩ := of_let hm
      refine WD.opU 6 rfl (by kernel_rfl) rfl rfl (ex_sliceU (k1 := .i64) (k2 := .i64) (k := .u8) Try.underlying23 Try.sizeOf5 rfl (.inl rfl) (.inr ⟨rfl, rfl⟩) ⟨c6, c7, c8⟩ h1 q2) ?_
      rintro _ ⟨A2, n2, rfl, h3, s2⟩
      refine ⟨_, rfl, ?_⟩
      obtain ⟨l3, q3, hm⟩ := of_bind hm
      refine WD.call 3 (by kernel_rfl) rfl rfl rfl rfl (ex_callI (args := [.slice A1 l1.length n1]) rfl rfl rfl Try.call47) (bytes_Clone_walk l1 A1 n1 _ h2  l3 q3) ?_
      rintro _ w2 ⟨A3, n3, rfl, F3, h4, s3⟩
      have h5 := (h1).fr F3 trivial
      have h6 := (h2).fr F3 trivial
      have h7 := (h3).fr F3 trivial
      have F4 := Fr.step F2 F3 trivial
      refine ⟨_, _, rfl, rfl, trivial, ?_⟩
      obtain ⟨l4, q4, hm⟩ := of_bind hm
      refine WD.call 7 (by kernel_rfl) rfl rfl rfl rfl (ex_callI (args := [.slice A2 l2.length n2]) rfl rfl rfl Try.call47) (bytes_Clone_walk l2 A2 n2 _ h7  l4 q4) ?_
      rintro _ w3 ⟨A4, n4, rfl, F5, h8, s4⟩
      have h9 := (h5).fr F5 trivial
      have h10 := (h6).fr F5 trivial
      have h11 := (h7).fr F5 trivial
      have h12 := (h4).fr F5 trivial
      have F6 := Fr.step F4 F5 trivial
      refine ⟨_, _, rfl, rfl, trivial, ?_⟩
      refine WD.batch (f' := 0) [8, 9, 10] #[true, true, true, true, true, true, true, true, true, true, true] [4, 5, 6] rfl (E' := [(4, .slice A3 l3.length n3), (5, .slice A4 l4.length n4), (6, .int .i64 0)]) (by kernel_rfl) ?_
      refine WD.end_ (by kernel_rfl) ?_
      refine W.ret ?_
      obtain ⟨q0a, q0b⟩ := Prod.mk.inj (Option.some.inj hm)
      obtain ⟨q1a, q1b⟩ := Prod.mk.inj (q0b)
      subst q0a
      subst q1a
      subst q1b
      exact ⟨_, ⟨_, _, rfl, rfl, ⟨_, _, rfl, rfl, ⟨_, _, rfl, rfl, rfl⟩⟩⟩, ⟨A3, n3, A4, n4, rfl, F6, h12, (Src.trans' s3 F2.size trivial), h8, (Src.trans' s4 F4.size trivial), (Ap.symm (Src.ap' s4 (h4).lt trivial))⟩⟩

/- cautery/num.TakeString -/
theorem num_TakeString_walk (k : Nat) (p0 : List Int) (p1 : Int) (Ap0 : Option Addr) (np0 : Nat) (w : World) (hp0 : Rd w 1 Ap0 p0.length np0 (ints .u8 p0)) (r0 : List Int) (r1 : List Int) (r2 : Int) (hm : num_TakeString.f k p0 p1 = some (r0, r1, r2)) :
    Calls Try.prog 33 #[.slice Ap0 p0.length np0, .int .i64 p1] w fun e w' => ∃ (A0 : Option Addr) (n0 : Nat) (A1 : Option Addr) (n1 : Nat), e = .returned (.tuple #[.slice A0 r0.length n0, .slice A1 r1.length n1, .int .i64 r2]) ∧ Fr [] w w' ∧ Own w' 5 1 A0 r0.length n0 (ints .u8 r0) ∧ Src (ablk A0) w.heap.size [] ∧ Own w' 5 1 A1 r1.length n1 (ints .u8 r1) ∧ Src (ablk A1) w.heap.size [] ∧ Ap (ablk A0) (ablk A1) := by
  have F0 := Fr.refl [] w
  unfold num_TakeString.f at hm
  refine W.enter (args := [.slice Ap0 p0.length np0, .int .i64 p1]) Try.func33 rfl (n := 36) rfl rfl ?_
  refine W.seq ?_
  refine W.region ?_
  refine WL.batch 3 [0, 1] (E' := [(0, .slice Ap0 p0.length np0), (1, .int .i64 p1)]) (by kernel_rfl) ?_
  refine WL.nil ?_
  refine W.seq ?_
  refine W.region ?_
  refine WL.batch 1 [1, 11] (E' := [(1, .int .i64 p1), (11, .slice Ap0 p0.length np0)]) (by kernel_rfl) ?_
  obtain ⟨⟨x1, l1, x2⟩, q1, hm⟩ := of_bind hm
  refine WL.call rfl rfl rfl (ex_callI (args := [.slice Ap0 p0.length np0]) rfl rfl rfl Try.call42) (num_Take_walk k p0 Ap0 np0 _ hp0  x1 l1 x2 q1) ?_
  rintro _ w1 ⟨A1, n1, rfl, F1, h1, s1⟩
  have h2 := (hp0).fr F1 trivial
  have F2 := Fr.step F0 F1 trivial
  refine ⟨_, _, rfl, rfl, ?_⟩
  refine WL.batch 7 [1, 7, 8, 9] (E' := [(1, .int .i64 p1), (7, .int .u64 x1), (8, .slice A1 l1.length n1), (9, .int .i64 x2)]) (by kernel_rfl) ?_
  refine WL.nil ?_
  refine W.seq ?_
  refine W.block ?_
  refine W.seq ?_
  refine W.region ?_
  refine WL.batch 3 [1, 7, 8, 9, 16] (E' := [(1, .int .i64 p1), (7, .int .u64 x1), (8, .slice A1 l1.length n1), (9, .int .i64 x2), (16, .bool (x2 != (0 : Int)))]) (by kernel_rfl) ?_
  refine WL.nil ?_
  rcases of_cond hm with ⟨c1, hm⟩ | ⟨c1, hm⟩
  · refine W.condT _ rfl c1 ?_
    refine W.seq ?_
    refine W.region ?_
    refine WL.batch 4 [4, 5, 6] (E' := [(4, .slice none 0 0), (5, .slice none 0 0), (6, .int .i64 x2)]) (by kernel_rfl) ?_
    refine WL.nil ?_
    refine W.ret ?_
    obtain ⟨q0a, q0b⟩ := Prod.mk.inj (Option.some.inj hm)
    obtain ⟨q1a, q1b⟩ := Prod.mk.inj (q0b)
    subst q0a
    subst q1a
    subst q1b
    exact ⟨_, ⟨_, _, rfl, rfl, ⟨_, _, rfl, rfl, ⟨_, _, rfl, rfl, rfl⟩⟩⟩, ⟨none, 0, none, 0, rfl, F2, (Own.nil _ _ _), (.inl (by simp [ablk, rblk])), (Own.nil _ _ _), (.inl (by simp [ablk, rblk])), (fun _ h => by simp [ablk, rblk] at h)⟩⟩
  · refine W.condF _ rfl c1 ?_
    refine W.seq ?_
    refine W.region ?_
    refine WL.batch 3 [1, 7, 8, 23] (E' := [(1, .int .i64 p1), (7, .int .u64 x1), (8, .slice A1 l1.length n1), (23, .bool (decide (p1 < (0 : Int))))]) (by kernel_rfl) ?_
    rcases of_cond hm with ⟨c2, hm⟩ | ⟨c2, hm⟩
    · rw [c2]
      refine WL.batch 6 [7, 8, 20] (E' := [(7, .int .u64 x1), (8, .slice A1 l1.length n1), (20, .bool true)]) (by kernel_rfl) ?_
      refine WL.nil ?_
      refine W.condT _ rfl rfl ?_
      refine W.seq ?_
      refine W.region ?_
      refine WL.batch 3 [4, 5, 6] (E' := [(4, .slice none 0 0), (5, .slice none 0 0), (6, .int .i64 4)]) (by kernel_rfl) ?_
      refine WL.nil ?_
      refine W.ret ?_
      obtain ⟨q0a, q0b⟩ := Prod.mk.inj (Option.some.inj hm)
      obtain ⟨q1a, q1b⟩ := Prod.mk.inj (q0b)
      subst q0a
      subst q1a
      subst q1b
      exact ⟨_, ⟨_, _, rfl, rfl, ⟨_, _, rfl, rfl, ⟨_, _, rfl, rfl, rfl⟩⟩⟩, ⟨none, 0, none, 0, rfl, F2, (Own.nil _ _ _), (.inl (by simp [ablk, rblk])), (Own.nil _ _ _), (.inl (by simp [ablk, rblk])), (fun _ h => by simp [ablk, rblk] at h)⟩⟩
    · rw [c2]
      refine WL.batch 6 [7, 8, 20] (E' := [(7, .int .u64 x1), (8, .slice A1 l1.length n1), (20, .bool (decide (x1 > (IntKind.wrap .u64 p1 : Int))))]) (by kernel_rfl) ?_
      refine WL.nil ?_
      rcases of_cond hm with ⟨c3, hm⟩ | ⟨c3, hm⟩
      · refine W.condT _ rfl c3 ?_
        refine W.seq ?_
        refine W.region ?_
        refine WL.batch 3 [4, 5, 6] (E' := [(4, .slice none 0 0), (5, .slice none 0 0), (6, .int .i64 4)]) (by kernel_rfl) ?_
        refine WL.nil ?_
        refine W.ret ?_
        obtain ⟨q0a, q0b⟩ := Prod.mk.inj (Option.some.inj hm)
        obtain ⟨q1a, q1b⟩ := Prod.mk.inj (q0b)
        subst q0a
        subst q1a
        subst q1b
        exact ⟨_, ⟨_, _, rfl, rfl, ⟨_, _, rfl, rfl, ⟨_, _, rfl, rfl, rfl⟩⟩⟩, ⟨none, 0, none, 0, rfl, F2, (Own.nil _ _ _), (.inl (by simp [ablk, rblk])), (Own.nil _ _ _), (.inl (by simp [ablk, rblk])), (fun _ h => by simp [ablk, rblk] at h)⟩⟩
      · refine W.condF _ rfl c3 ?_
        refine W.skip ?_
        refine W.seq ?_
        refine W.region ?_
        refine WL.batch 3 [29, 31] (E' := [(29, .slice A1 l1.length n1), (31, .int .i64 (IntKind.wrap .i64 x1))]) (by kernel_rfl) ?_
        obtain ⟨x3, q2, hm⟩ := of_let hm
        rw [q2]
        obtain ⟨⟨l2, l3, x4⟩, q3, hm⟩ := of_bind hm
        refine WL.call rfl rfl rfl (ex_callI (args := [.slice A1 l1.length n1, .int .i64 x3]) rfl rfl rfl Try.call43) (num_TakeBytes_walk l1 x3 A1 n1 _ (h1).rd  l2 l3 x4 q3) ?_
        rintro _ w2 ⟨A2, n2, A3, n3, rfl, F3, h3, s2, h4, s3, ap1⟩
        have h5 := (h2).fr F3 trivial
        have h6 := (h1).fr F3 trivial
        have F4 := Fr.step F2 F3 trivial
        refine ⟨_, _, rfl, rfl, ?_⟩
        refine WL.batch 6 [4, 5, 6] (E' := [(4, .slice A2 l2.length n2), (5, .slice A3 l3.length n3), (6, .int .i64 x4)]) (by kernel_rfl) ?_
        refine WL.nil ?_
        refine W.ret ?_
        obtain ⟨q0a, q0b⟩ := Prod.mk.inj (Option.some.inj hm)
        obtain ⟨q1a, q1b⟩ := Prod.mk.inj (q0b)
        subst q0a
        subst q1a
        subst q1b
        exact ⟨_, ⟨_, _, rfl, rfl, ⟨_, _, rfl, rfl, ⟨_, _, rfl, rfl, rfl⟩⟩⟩, ⟨A2, n2, A3, n3, rfl, F4, h3, (Src.trans' s2 F2.size trivial), h4, (Src.trans' s3 F2.size trivial), ap1⟩⟩
end Go.Proofs.Ythbcjjhlebhghaa.Walk
