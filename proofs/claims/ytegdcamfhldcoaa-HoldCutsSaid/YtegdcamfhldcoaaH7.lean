import Derived.Test.YtegdcamfhldcoaaH6
namespace Go.Proofs
open Go.PM
set_option maxHeartbeats 1000000
set_option linter.unusedSimpArgs false
set_option linter.unusedVariables false

theorem holdCuts_ {ticks parts : List Int} {s : St} : ACalls Try.prog 7 [.sl .unk (ticks.map (PV.int .i64)), .sl .unk (parts.map (PV.int .i64))] s (fun r s' => r = .bool true) := by
  refine ACalls.body Try.func7 rfl (by simp [Try.f7]) (by decide) fun hwf => ?_
  show Run _ _ [.code _] _ _ _
  refine Run.seq ?_
  refine Run.region ?_
  refine RunO.all (by simp only [go_sem, ↓reduceIte, Nat.reduceEqDiff, Nat.reduceLT, Nat.reduceLeDiff, Nat.reduceAdd, Int.natCast_nonneg, Int.ofNat_lt, List.length_map, decide_true, weaks_items] <;> rfl) ?_
  refine RunO.live' [0, 1] (by simp only [go_sem, ↓reduceIte, Nat.reduceEqDiff, Nat.reduceLT, Nat.reduceLeDiff, Nat.reduceAdd, Int.natCast_nonneg, Int.ofNat_lt, List.length_map, decide_true, weaks_items] <;> rfl) ?_
  refine Run.seq ?_
  refine Run.region ?_
  refine RunO.callw (by simp only [go_sem, ↓reduceIte, Nat.reduceEqDiff, Nat.reduceLT, Nat.reduceLeDiff, Nat.reduceAdd, Int.natCast_nonneg, Int.ofNat_lt, List.length_map, decide_true, weaks_items] <;> rfl) (by simp only [go_sem, ↓reduceIte, Nat.reduceEqDiff, Nat.reduceLT, Nat.reduceLeDiff, Nat.reduceAdd, Int.natCast_nonneg, Int.ofNat_lt, List.length_map, decide_true, weaks_items] <;> rfl) (by simp only [go_sem, ↓reduceIte, Nat.reduceEqDiff, Nat.reduceLT, Nat.reduceLeDiff, Nat.reduceAdd, Int.natCast_nonneg, Int.ofNat_lt, List.length_map, decide_true, weaks_items] <;> rfl) (by kernel_rfl) ((hold_New.wf).mono ?_)
  rintro r1 s1 ⟨wf1, rfl, A1, nA, frA⟩
  refine RunO.callw (by simp only [go_sem, ↓reduceIte, Nat.reduceEqDiff, Nat.reduceLT, Nat.reduceLeDiff, Nat.reduceAdd, Int.natCast_nonneg, Int.ofNat_lt, List.length_map, decide_true, weaks_items] <;> rfl) (by simp only [go_sem, ↓reduceIte, Nat.reduceEqDiff, Nat.reduceLT, Nat.reduceLeDiff, Nat.reduceAdd, Int.natCast_nonneg, Int.ofNat_lt, List.length_map, decide_true, weaks_items] <;> rfl) (by simp only [go_sem, ↓reduceIte, Nat.reduceEqDiff, Nat.reduceLT, Nat.reduceLeDiff, Nat.reduceAdd, Int.natCast_nonneg, Int.ofNat_lt, List.length_map, decide_true, weaks_items] <;> rfl) (by kernel_rfl) ((hold_New.wf).mono ?_)
  rintro r2 s2 ⟨wf2, rfl, B2, nB, frB⟩
  have A2 : HoldAt s2 s.nxt [] 0 none := A1.keep (frB _ nA) (by simp)
  have ap2 : Apart s.nxt s1.nxt none none := ⟨by omega, by simp, by simp, by simp⟩
  refine RunO.all (by simp only [go_sem, ↓reduceIte, Nat.reduceEqDiff, Nat.reduceLT, Nat.reduceLeDiff, Nat.reduceAdd, Int.natCast_nonneg, Int.ofNat_lt, List.length_map, decide_true, weaks_items] <;> rfl) ?_
  refine RunO.live' [0, 1, 5, 6] (by simp only [go_sem, ↓reduceIte, Nat.reduceEqDiff, Nat.reduceLT, Nat.reduceLeDiff, Nat.reduceAdd, Int.natCast_nonneg, Int.ofNat_lt, List.length_map, decide_true, weaks_items] <;> rfl) ?_
  refine Run.seq ?_
  refine Run.seq ?_
  refine Run.region ?_
  refine RunO.all (by simp only [go_sem, ↓reduceIte, Nat.reduceEqDiff, Nat.reduceLT, Nat.reduceLeDiff, Nat.reduceAdd, Int.natCast_nonneg, Int.ofNat_lt, List.length_map, decide_true, weaks_items] <;> rfl) ?_
  refine RunO.live' [0, 1, 5, 6, 20] (by simp only [go_sem, ↓reduceIte, Nat.reduceEqDiff, Nat.reduceLT, Nat.reduceLeDiff, Nat.reduceAdd, Int.natCast_nonneg, Int.ofNat_lt, List.length_map, decide_true, weaks_items] <;> rfl) ?_
  refine Run.cond (by simp only [go_sem, ↓reduceIte, Nat.reduceEqDiff, Nat.reduceLT, Nat.reduceLeDiff, Nat.reduceAdd, Int.natCast_nonneg, Int.ofNat_lt, List.length_map, decide_true, weaks_items] <;> rfl) (fun hc0 => ?_) (fun hc0 => ?_)
  · cases hc0
  · have hc := hc0
    refine Run.skip ?_
    refine Run.seq ?_
    refine Run.seq ?_
    refine Run.region ?_
    refine RunO.all (by simp only [go_sem, ↓reduceIte, Nat.reduceEqDiff, Nat.reduceLT, Nat.reduceLeDiff, Nat.reduceAdd, Int.natCast_nonneg, Int.ofNat_lt, List.length_map, decide_true, weaks_items] <;> rfl) ?_
    refine RunO.live' [0, 1, 5, 6, 7] (by simp only [go_sem, ↓reduceIte, Nat.reduceEqDiff, Nat.reduceLT, Nat.reduceLeDiff, Nat.reduceAdd, Int.natCast_nonneg, Int.ofNat_lt, List.length_map, decide_true, weaks_items] <;> rfl) ?_
    refine Run.block ?_
    -- loop 0, live [0, 1, 5, 6, 7]
    refine Run.loop (fun e s' => ∃ (i : Nat) (xs ys : List Item) (L1 L2 : Option Nat), e = [(0, .sl .unk (ticks.map (PV.int .i64))), (1, .sl .unk (parts.map (PV.int .i64))), (5, .ptr s.nxt 0 0), (6, .ptr s1.nxt 0 0), (7, .int .i64 i)] ∧ s'.wf ∧ HoldAt s' s.nxt xs i L1 ∧ HoldAt s' s1.nxt ys i L2 ∧ Apart s.nxt s1.nxt L1 L2 ∧ xs.Perm ys ∧ xs.length = i ∧ i ≤ 50 ∧ (∀ x ∈ xs, x.tick ≤ 1023 ∧ x.order < i) ∧ (xs.map Item.order).Nodup) (fun e s' => 50 - ivar e 7) ?_ ?_
    · exact ⟨0, [], [], none, none, rfl, wf2, A2, B2, ap2, .refl _, rfl, by omega, by simp, by simp⟩
    rintro e s3 ⟨i, xs, ys, L1, L2, rfl, wf3, A3, B3, ap3, pxy, hxl, hi, hxs, hnd⟩
    refine Run.seq ?_
    refine Run.seq ?_
    refine Run.region ?_
    refine RunO.all (by simp only [go_sem, ↓reduceIte, Nat.reduceEqDiff, Nat.reduceLT, Nat.reduceLeDiff, Nat.reduceAdd, Int.natCast_nonneg, Int.ofNat_lt, List.length_map, decide_true, weaks_items] <;> rfl) ?_
    refine RunO.live' [0, 1, 5, 6, 7, 28] (by simp only [go_sem, ↓reduceIte, Nat.reduceEqDiff, Nat.reduceLT, Nat.reduceLeDiff, Nat.reduceAdd, Int.natCast_nonneg, Int.ofNat_lt, List.length_map, decide_true, weaks_items] <;> rfl) ?_
    refine Run.cond (by simp only [go_sem, ↓reduceIte, Nat.reduceEqDiff, Nat.reduceLT, Nat.reduceLeDiff, Nat.reduceAdd, Int.natCast_nonneg, Int.ofNat_lt, List.length_map, decide_true, weaks_items] <;> rfl) (fun hc1 => ?_) (fun hc1 => ?_)
    · have hc := hc1
      refine Run.skip ?_
      refine Run.seq ?_
      refine Run.block ?_
      refine Run.seq ?_
      have hi50 : i < 50 ∧ i < ticks.length := by simp at hc1; omega
      have hx := map_tk hi50.2
      have hcast : ((i : Int) + 1) = ((i + 1 : Nat) : Int) := by omega
      have hw : IntKind.i64.wrap ((i : Int) + 1) = ((i + 1 : Nat) : Int) := by rw [wrap_i64 (by omega)]; omega
      refine Run.region ?_
      refine RunO.ops (pre := [_, _, _, _, _, _, _]) (by simp only [go_sem, ↓reduceIte, Nat.reduceEqDiff, Nat.reduceLT, Nat.reduceLeDiff, Nat.reduceAdd, Int.natCast_nonneg, Int.ofNat_lt, List.length_map, decide_true, weaks_items, hx, hw] <;> rfl) ?_
      refine RunO.callw (by simp only [go_sem, ↓reduceIte, Nat.reduceEqDiff, Nat.reduceLT, Nat.reduceLeDiff, Nat.reduceAdd, Int.natCast_nonneg, Int.ofNat_lt, List.length_map, decide_true, weaks_items, hx, hw] <;> rfl) (by simp only [go_sem, ↓reduceIte, Nat.reduceEqDiff, Nat.reduceLT, Nat.reduceLeDiff, Nat.reduceAdd, Int.natCast_nonneg, Int.ofNat_lt, List.length_map, decide_true, weaks_items, hx, hw] <;> rfl) (by simp only [go_sem, ↓reduceIte, Nat.reduceEqDiff, Nat.reduceLT, Nat.reduceLeDiff, Nat.reduceAdd, Int.natCast_nonneg, Int.ofNat_lt, List.length_map, decide_true, weaks_items, hx, hw] <;> rfl) (by kernel_rfl) (((hold_Put (key := i) (A3.lt wf3) A3 (by omega) (by omega)).wf).mono ?_)
      rintro r4 s4 ⟨wf4, _, xs', L1', A4, pA, mA⟩
      have B4 := B3.other wf3 mA ap3
      have ap4 := ap3.move wf3 B3 mA
      refine RunO.live' [0, 1, 5, 6, 7] (by simp only [go_sem, ↓reduceIte, Nat.reduceEqDiff, Nat.reduceLT, Nat.reduceLeDiff, Nat.reduceAdd, Int.natCast_nonneg, Int.ofNat_lt, List.length_map, decide_true, weaks_items, hx, hw] <;> rfl) ?_
      refine Run.region ?_
      refine RunO.ops (pre := [_, _, _, _, _, _, _]) (by simp only [go_sem, ↓reduceIte, Nat.reduceEqDiff, Nat.reduceLT, Nat.reduceLeDiff, Nat.reduceAdd, Int.natCast_nonneg, Int.ofNat_lt, List.length_map, decide_true, weaks_items, hx, hw] <;> rfl) ?_
      refine RunO.callw (by simp only [go_sem, ↓reduceIte, Nat.reduceEqDiff, Nat.reduceLT, Nat.reduceLeDiff, Nat.reduceAdd, Int.natCast_nonneg, Int.ofNat_lt, List.length_map, decide_true, weaks_items, hx, hw] <;> rfl) (by simp only [go_sem, ↓reduceIte, Nat.reduceEqDiff, Nat.reduceLT, Nat.reduceLeDiff, Nat.reduceAdd, Int.natCast_nonneg, Int.ofNat_lt, List.length_map, decide_true, weaks_items, hx, hw] <;> rfl) (by simp only [go_sem, ↓reduceIte, Nat.reduceEqDiff, Nat.reduceLT, Nat.reduceLeDiff, Nat.reduceAdd, Int.natCast_nonneg, Int.ofNat_lt, List.length_map, decide_true, weaks_items, hx, hw] <;> rfl) (by kernel_rfl) (((hold_Put (key := i) (B4.lt wf4) B4 (by rw [← pxy.length_eq]; omega) (by omega)).wf).mono ?_)
      rintro r5 s5 ⟨wf5, _, ys', L2', B5, pB, mB⟩
      have A5 := A4.other wf4 mB ap4.symm
      have ap5 := (ap4.symm.move wf4 A4 mB).symm
      refine RunO.live' [0, 1, 5, 6, 7] (by simp only [go_sem, ↓reduceIte, Nat.reduceEqDiff, Nat.reduceLT, Nat.reduceLeDiff, Nat.reduceAdd, Int.natCast_nonneg, Int.ofNat_lt, List.length_map, decide_true, weaks_items, hx, hw] <;> rfl) ?_
      refine Run.blk ?_
      refine Run.region ?_
      refine RunO.all (by simp only [go_sem, ↓reduceIte, Nat.reduceEqDiff, Nat.reduceLT, Nat.reduceLeDiff, Nat.reduceAdd, Int.natCast_nonneg, Int.ofNat_lt, List.length_map, decide_true, weaks_items, hx, hw] <;> rfl) ?_
      refine RunO.live' [0, 1, 5, 6, 7] (by simp only [go_sem, ↓reduceIte, Nat.reduceEqDiff, Nat.reduceLT, Nat.reduceLeDiff, Nat.reduceAdd, Int.natCast_nonneg, Int.ofNat_lt, List.length_map, decide_true, weaks_items, hx, hw] <;> rfl) ?_
      rw [hcast] at A5 B5
      have hm := ibits_and_le (tk ticks i) 1023 (by decide)
      refine Run.lp ⟨⟨i + 1, xs', ys', L1', L2', rfl, wf5, A5, B5, ap5, ?_, ?_, by omega, fun x hx => ?_, ?_⟩, ?_⟩
      · exact pA.trans ((pxy.append_right _).trans pB.symm)
      · have := pA.length_eq
        simp at this
        omega
      · rcases List.mem_append.1 (pA.subset hx) with h | h
        · have := hxs x h
          omega
        · rw [List.mem_singleton.1 h]
          exact ⟨hm.2, by simp; omega⟩
      · refine ((pA.map Item.order).nodup_iff).2 ?_
        rw [List.map_append]
        refine List.nodup_append.2 ⟨hnd, by simp, fun a ha b hb => ?_⟩
        obtain ⟨x, hx, rfl⟩ := List.mem_map.1 ha
        have := (hxs x hx).2
        simp at hb
        omega
      · simp only [ivar, go_sem, ↓reduceIte, Nat.reduceEqDiff]
        omega
    · have hc := hc1
      refine Run.exit ?_
      show Run _ _ _ _ _ _
      refine Run.seq ?_
      refine Run.region ?_
      refine RunO.all (by simp only [go_sem, ↓reduceIte, Nat.reduceEqDiff, Nat.reduceLT, Nat.reduceLeDiff, Nat.reduceAdd, Int.natCast_nonneg, Int.ofNat_lt, List.length_map, decide_true, weaks_items] <;> rfl) ?_
      refine RunO.live' [1, 5, 6, 8] (by simp only [go_sem, ↓reduceIte, Nat.reduceEqDiff, Nat.reduceLT, Nat.reduceLeDiff, Nat.reduceAdd, Int.natCast_nonneg, Int.ofNat_lt, List.length_map, decide_true, weaks_items] <;> rfl) ?_
      refine Run.seq ?_
      refine Run.region ?_
      refine RunO.all (by simp only [go_sem, ↓reduceIte, Nat.reduceEqDiff, Nat.reduceLT, Nat.reduceLeDiff, Nat.reduceAdd, Int.natCast_nonneg, Int.ofNat_lt, List.length_map, decide_true, weaks_items] <;> rfl) ?_
      refine RunO.live' [1, 5, 6, 8, 9] (by simp only [go_sem, ↓reduceIte, Nat.reduceEqDiff, Nat.reduceLT, Nat.reduceLeDiff, Nat.reduceAdd, Int.natCast_nonneg, Int.ofNat_lt, List.length_map, decide_true, weaks_items] <;> rfl) ?_
      refine Run.seq ?_
      refine Run.seq ?_
      refine Run.region ?_
      refine RunO.all (by simp only [go_sem, ↓reduceIte, Nat.reduceEqDiff, Nat.reduceLT, Nat.reduceLeDiff, Nat.reduceAdd, Int.natCast_nonneg, Int.ofNat_lt, List.length_map, decide_true, weaks_items] <;> rfl) ?_
      refine RunO.live' [1, 5, 6, 8, 9, 10] (by simp only [go_sem, ↓reduceIte, Nat.reduceEqDiff, Nat.reduceLT, Nat.reduceLeDiff, Nat.reduceAdd, Int.natCast_nonneg, Int.ofNat_lt, List.length_map, decide_true, weaks_items] <;> rfl) ?_
      refine Run.block ?_
      -- loop 1, live [1, 5, 6, 8, 9, 10]
      refine Run.loop (fun e s' => ∃ (j : Nat) (now : Int) (xs1 got : List Item) (k : SK) (L1 L2 : Option Nat), e = [(1, .sl .unk (parts.map (PV.int .i64))), (5, .ptr s.nxt 0 0), (6, .ptr s1.nxt 0 0), (8, .sl k (got.map Item.pv)), (9, .int .i64 now), (10, .int .i64 j)] ∧ s'.wf ∧ HoldAt s' s.nxt xs1 i L1 ∧ HoldAt s' s1.nxt ys i L2 ∧ Apart s.nxt s1.nxt L1 L2 ∧ (got ++ xs1).Perm xs ∧ got.Pairwise (fun a b => b.lt a = false) ∧ (∀ a ∈ got, ∀ b ∈ xs1, b.lt a = false) ∧ Grows s' k got.length 3 ∧ (∀ t z, k = .tok t z → t < s'.nxt) ∧ j ≤ 30) (fun e s' => 30 - ivar e 10) ?_ ?_
      · exact ⟨0, 0, xs, [], .nil, L1, L2, rfl, wf3, A3, B3, ap3, by simp, .nil, by simp, .inl ⟨rfl, rfl⟩, by simp, by omega⟩
      rintro e s6 ⟨j, now, xs1, got, k, L1, L2, rfl, wf6, A6, B6, ap6, pg, hsort, hcross, hgr6, htk6, hj⟩
      refine Run.seq ?_
      refine Run.seq ?_
      refine Run.region ?_
      refine RunO.all (by simp only [go_sem, ↓reduceIte, Nat.reduceEqDiff, Nat.reduceLT, Nat.reduceLeDiff, Nat.reduceAdd, Int.natCast_nonneg, Int.ofNat_lt, List.length_map, decide_true, weaks_items] <;> rfl) ?_
      refine RunO.live' [1, 5, 6, 8, 9, 10, 54] (by simp only [go_sem, ↓reduceIte, Nat.reduceEqDiff, Nat.reduceLT, Nat.reduceLeDiff, Nat.reduceAdd, Int.natCast_nonneg, Int.ofNat_lt, List.length_map, decide_true, weaks_items] <;> rfl) ?_
      refine Run.cond (by simp only [go_sem, ↓reduceIte, Nat.reduceEqDiff, Nat.reduceLT, Nat.reduceLeDiff, Nat.reduceAdd, Int.natCast_nonneg, Int.ofNat_lt, List.length_map, decide_true, weaks_items] <;> rfl) (fun hc2 => ?_) (fun hc2 => ?_)
      · have hc := hc2
        refine Run.skip ?_
        refine Run.seq ?_
        refine Run.block ?_
        refine Run.seq ?_
        have hj30 : j < 30 ∧ j < parts.length := by simp at hc2; omega
        have hx := map_tk hj30.2
        have hw : IntKind.i64.wrap ((j : Int) + 1) = ((j + 1 : Nat) : Int) := by rw [wrap_i64 (by omega)]; omega
        refine Run.region ?_
        refine RunO.all (by simp only [go_sem, ↓reduceIte, Nat.reduceEqDiff, Nat.reduceLT, Nat.reduceLeDiff, Nat.reduceAdd, Int.natCast_nonneg, Int.ofNat_lt, List.length_map, decide_true, weaks_items, hx, hw] <;> rfl) ?_
        refine RunO.live' [1, 5, 6, 8, 9, 10] (by simp only [go_sem, ↓reduceIte, Nat.reduceEqDiff, Nat.reduceLT, Nat.reduceLeDiff, Nat.reduceAdd, Int.natCast_nonneg, Int.ofNat_lt, List.length_map, decide_true, weaks_items, hx, hw] <;> rfl) ?_
        refine Run.seq ?_
        generalize hnw : IntKind.i64.wrap (now + ibits .and .i64 (tk parts j) 63) = nw
        refine Run.region ?_
        refine RunO.ops (pre := [_, _]) (by simp only [go_sem, ↓reduceIte, Nat.reduceEqDiff, Nat.reduceLT, Nat.reduceLeDiff, Nat.reduceAdd, Int.natCast_nonneg, Int.ofNat_lt, List.length_map, decide_true, weaks_items, hx, hw] <;> rfl) ?_
        refine RunO.callw (by simp only [go_sem, ↓reduceIte, Nat.reduceEqDiff, Nat.reduceLT, Nat.reduceLeDiff, Nat.reduceAdd, Int.natCast_nonneg, Int.ofNat_lt, List.length_map, decide_true, weaks_items, hx, hw] <;> rfl) (by simp only [go_sem, ↓reduceIte, Nat.reduceEqDiff, Nat.reduceLT, Nat.reduceLeDiff, Nat.reduceAdd, Int.natCast_nonneg, Int.ofNat_lt, List.length_map, decide_true, weaks_items, hx, hw] <;> rfl) (by simp only [go_sem, ↓reduceIte, Nat.reduceEqDiff, Nat.reduceLT, Nat.reduceLeDiff, Nat.reduceAdd, Int.natCast_nonneg, Int.ofNat_lt, List.length_map, decide_true, weaks_items, hx, hw] <;> rfl) (by kernel_rfl) (((hold_Due A6 (by have := pg.length_eq; simp at this; omega)).wf).mono ?_)
        rintro r7 s7 ⟨wf7, out, xs2, rfl, A7, mA, q1, q2, q3⟩
        have B7 := B6.other wf6 mA ap6
        have ap7 := ap6.move wf6 B6 mA
        have hgr7 : Grows s7 k got.length 3 := hgr6.mono fun t ht => mA.rest t (htk6 t 3 ht) (hgr6.hne A6 ht).1 (hgr6.hne A6 ht).2
        have htk7 : ∀ t z, k = .tok t z → t < s7.nxt := fun t z ht => Nat.lt_of_lt_of_le (htk6 t z ht) mA.nxt
        refine RunO.all (by simp only [go_sem, ↓reduceIte, Nat.reduceEqDiff, Nat.reduceLT, Nat.reduceLeDiff, Nat.reduceAdd, Int.natCast_nonneg, Int.ofNat_lt, List.length_map, decide_true, weaks_items, hx, hw] <;> rfl) ?_
        refine RunO.live' [1, 5, 6, 8, 9, 10, 66, 67, 68] (by simp only [go_sem, ↓reduceIte, Nat.reduceEqDiff, Nat.reduceLT, Nat.reduceLeDiff, Nat.reduceAdd, Int.natCast_nonneg, Int.ofNat_lt, List.length_map, decide_true, weaks_items, hx, hw] <;> rfl) ?_
        refine Run.block ?_
        -- loop 2, live [1, 5, 6, 8, 9, 10, 66, 67, 68]
        refine Run.loop (fun e s' => ∃ (q : Nat) (k : SK), e = [(1, .sl .unk (parts.map (PV.int .i64))), (5, .ptr s.nxt 0 0), (6, .ptr s1.nxt 0 0), (8, .sl k ((got ++ out.take q).map Item.pv)), (9, .int .i64 nw), (10, .int .i64 j), (66, .sl .unk (out.map Item.pv)), (67, .int .i64 out.length), (68, .int .i64 q)] ∧ s'.wf ∧ HoldAt s' s.nxt xs2 i L1 ∧ HoldAt s' s1.nxt ys i L2 ∧ Grows s' k (got.length + q) 3 ∧ (∀ t z, k = .tok t z → t < s'.nxt) ∧ q ≤ out.length) (fun e s' => out.length - ivar e 68) ?_ ?_
        · exact ⟨0, k, by simp, wf7, A7, B7, hgr7, htk7, by omega⟩
        rintro e s8 ⟨q, k8, rfl, wf8, A8, B8, hgr8, htk8, hq⟩
        refine Run.seq ?_
        refine Run.region ?_
        refine RunO.all (by simp only [go_sem, ↓reduceIte, Nat.reduceEqDiff, Nat.reduceLT, Nat.reduceLeDiff, Nat.reduceAdd, Int.natCast_nonneg, Int.ofNat_lt, List.length_map, decide_true, weaks_items, hx, hw] <;> rfl) ?_
        refine RunO.live' [1, 5, 6, 8, 9, 10, 66, 67, 68, 69] (by simp only [go_sem, ↓reduceIte, Nat.reduceEqDiff, Nat.reduceLT, Nat.reduceLeDiff, Nat.reduceAdd, Int.natCast_nonneg, Int.ofNat_lt, List.length_map, decide_true, weaks_items, hx, hw] <;> rfl) ?_
        refine Run.seq ?_
        refine Run.cond (by simp only [go_sem, ↓reduceIte, Nat.reduceEqDiff, Nat.reduceLT, Nat.reduceLeDiff, Nat.reduceAdd, Int.natCast_nonneg, Int.ofNat_lt, List.length_map, decide_true, weaks_items, hx, hw] <;> rfl) (fun hc3 => ?_) (fun hc3 => ?_)
        · have hc := hc3
          refine Run.skip ?_
          refine Run.seq ?_
          refine Run.block ?_
          refine Run.seq ?_
          have hqo : q < out.length := by have := of_decide_eq_true hc3; omega
          have hxo : (out.map Item.pv)[q]? = some (.agg [.int .i64 (at0 out q).tick, .int .i64 (at0 out q).order, .int .i64 (at0 out q).key]) := map_at0 (by omega)
          have hwq : IntKind.i64.wrap ((q : Int) + 1) = ((q + 1 : Nat) : Int) := by rw [wrap_i64 (by have := pg.length_eq; have := q1.length_eq; have := List.length_filter_le (fun a => decide (a.tick ≤ nw)) xs1; simp at *; omega)]; omega
          refine Run.region ?_
          refine RunO.all (by simp only [go_sem, ↓reduceIte, Nat.reduceEqDiff, Nat.reduceLT, Nat.reduceLeDiff, Nat.reduceAdd, Int.natCast_nonneg, Int.ofNat_lt, List.length_map, decide_true, weaks_items, hx, hw, hxo, hwq] <;> rfl) ?_
          refine RunO.live' [1, 5, 6, 8, 9, 10, 12, 66, 67, 68] (by simp only [go_sem, ↓reduceIte, Nat.reduceEqDiff, Nat.reduceLT, Nat.reduceLeDiff, Nat.reduceAdd, Int.natCast_nonneg, Int.ofNat_lt, List.length_map, decide_true, weaks_items, hx, hw, hxo, hwq] <;> rfl) ?_
          refine Run.seq ?_
          refine Run.seq ?_
          refine Run.region ?_
          refine RunO.all (by simp only [go_sem, ↓reduceIte, Nat.reduceEqDiff, Nat.reduceLT, Nat.reduceLeDiff, Nat.reduceAdd, Int.natCast_nonneg, Int.ofNat_lt, List.length_map, decide_true, weaks_items, hx, hw, hxo, hwq] <;> rfl) ?_
          refine RunO.live' [1, 5, 6, 8, 9, 10, 12, 66, 67, 68, 75] (by simp only [go_sem, ↓reduceIte, Nat.reduceEqDiff, Nat.reduceLT, Nat.reduceLeDiff, Nat.reduceAdd, Int.natCast_nonneg, Int.ofNat_lt, List.length_map, decide_true, weaks_items, hx, hw, hxo, hwq] <;> rfl) ?_
          refine Run.cond (by simp only [go_sem, ↓reduceIte, Nat.reduceEqDiff, Nat.reduceLT, Nat.reduceLeDiff, Nat.reduceAdd, Int.natCast_nonneg, Int.ofNat_lt, List.length_map, decide_true, weaks_items, hx, hw, hxo, hwq] <;> rfl) (fun hc4 => ?_) (fun hc4 => ?_)
          · have hc := hc4
            refine Run.seq ?_
            exfalso
            have h1 := of_decide_eq_true hc4
            have h2 : at0 out q ∈ out := at0_mem hqo
            have h3 := (List.mem_filter.1 (q1.subset h2)).2
            have h4 := of_decide_eq_true h3
            omega
          · have hc := hc4
            refine Run.skip ?_
            have hgr9 : Grows (s8.new (.row 37 [.agg [.int .i64 (at0 out q).tick, .int .i64 (at0 out q).order, .int .i64 (at0 out q).key]])) k8 ((got ++ out.take q).map Item.pv).length 3 := by
              have e1 : ((got ++ out.take q).map Item.pv).length = got.length + q := by simp; omega
              rw [e1]
              refine hgr8.mono fun t ht => ?_
              rw [blk_new, if_neg (by have := htk8 t 3 ht; omega)]
            refine Run.region ?_
            refine RunO.ops (pre := [_, _]) (by simp only [go_sem, ↓reduceIte, Nat.reduceEqDiff, Nat.reduceLT, Nat.reduceLeDiff, Nat.reduceAdd, Int.natCast_nonneg, Int.ofNat_lt, List.length_map, decide_true, weaks_items, hx, hw, hxo, hwq] <;> rfl) ?_
            refine RunO.lit (by simp only [go_sem, ↓reduceIte, Nat.reduceEqDiff, Nat.reduceLT, Nat.reduceLeDiff, Nat.reduceAdd, Int.natCast_nonneg, Int.ofNat_lt, List.length_map, decide_true, weaks_items, hx, hw, hxo, hwq] <;> rfl) (by simp only [go_sem, ↓reduceIte, Nat.reduceEqDiff, Nat.reduceLT, Nat.reduceLeDiff, Nat.reduceAdd, Int.natCast_nonneg, Int.ofNat_lt, List.length_map, decide_true, weaks_items, hx, hw, hxo, hwq] <;> rfl) ?_
            refine RunO.grow (by simp only [go_sem, ↓reduceIte, Nat.reduceEqDiff, Nat.reduceLT, Nat.reduceLeDiff, Nat.reduceAdd, Int.natCast_nonneg, Int.ofNat_lt, List.length_map, decide_true, weaks_items, hx, hw, hxo, hwq] <;> rfl) (by simp only [go_sem, ↓reduceIte, Nat.reduceEqDiff, Nat.reduceLT, Nat.reduceLeDiff, Nat.reduceAdd, Int.natCast_nonneg, Int.ofNat_lt, List.length_map, decide_true, weaks_items, hx, hw, hxo, hwq] <;> rfl) (by simp only [go_sem, ↓reduceIte, Nat.reduceEqDiff, Nat.reduceLT, Nat.reduceLeDiff, Nat.reduceAdd, Int.natCast_nonneg, Int.ofNat_lt, List.length_map, decide_true, weaks_items, hx, hw, hxo, hwq] <;> rfl) Try.td32 (by rw [Try.zp37]; rfl) (isEls_items _) (isEls_item _) (by rw [Try.by37]; decide) (by rw [Try.by37]; simp; have := pg.length_eq; have := q1.length_eq; have := List.length_filter_le (fun a => decide (a.tick ≤ nw)) xs1; simp at *; omega) (by rw [Try.cz37]; exact hgr9) (by simp) ?_
            intro k9 s9 hgr10 htm
            refine RunO.all (by simp only [go_sem, ↓reduceIte, Nat.reduceEqDiff, Nat.reduceLT, Nat.reduceLeDiff, Nat.reduceAdd, Int.natCast_nonneg, Int.ofNat_lt, List.length_map, decide_true, weaks_items, hx, hw, hxo, hwq] <;> rfl) ?_
            refine RunO.live' [1, 5, 6, 8, 9, 10, 66, 67, 68] (by simp only [go_sem, ↓reduceIte, Nat.reduceEqDiff, Nat.reduceLT, Nat.reduceLeDiff, Nat.reduceAdd, Int.natCast_nonneg, Int.ofNat_lt, List.length_map, decide_true, weaks_items, hx, hw, hxo, hwq] <;> rfl) ?_
            refine Run.blk ?_
            refine Run.region ?_
            refine RunO.all (by simp only [go_sem, ↓reduceIte, Nat.reduceEqDiff, Nat.reduceLT, Nat.reduceLeDiff, Nat.reduceAdd, Int.natCast_nonneg, Int.ofNat_lt, List.length_map, decide_true, weaks_items, hx, hw, hxo, hwq] <;> rfl) ?_
            refine RunO.live' [1, 5, 6, 8, 9, 10, 66, 67, 68] (by simp only [go_sem, ↓reduceIte, Nat.reduceEqDiff, Nat.reduceLT, Nat.reduceLeDiff, Nat.reduceAdd, Int.natCast_nonneg, Int.ofNat_lt, List.length_map, decide_true, weaks_items, hx, hw, hxo, hwq] <;> rfl) ?_
            refine Run.lp ⟨⟨q + 1, k9, ?_, htm.wf (new_wf wf8 _), (A8.new wf8 _).tmove (new_wf wf8 _) hgr9 htm, (B8.new wf8 _).tmove (new_wf wf8 _) hgr9 htm, ?_, ?_, by omega⟩, ?_⟩
            · rw [take_succ_at0 hqo, ← List.append_assoc, List.map_append (l₂ := [at0 out q])]
              rfl
            · rw [Try.cz37] at hgr10
              have e2 : ((got ++ out.take q).map Item.pv).length + [(at0 out q).pv].length = got.length + (q + 1) := by simp; omega
              exact e2 ▸ hgr10
            · intro t z e
              have h1 := htm.nxt
              rw [nxt_new] at h1
              rcases htm.fresh t z e with ⟨z', h⟩ | ⟨_, h⟩
              · have := htk8 t z' h
                omega
              · exact h
            · simp only [ivar, go_sem, ↓reduceIte, Nat.reduceEqDiff]
              omega
        · have hc := hc3
          refine Run.exit ?_
          show Run _ _ _ _ _ _
          refine Run.blk ?_
          refine Run.region ?_
          refine RunO.all (by simp only [go_sem, ↓reduceIte, Nat.reduceEqDiff, Nat.reduceLT, Nat.reduceLeDiff, Nat.reduceAdd, Int.natCast_nonneg, Int.ofNat_lt, List.length_map, decide_true, weaks_items, hx, hw] <;> rfl) ?_
          refine RunO.live' [1, 5, 6, 8, 9, 10] (by simp only [go_sem, ↓reduceIte, Nat.reduceEqDiff, Nat.reduceLT, Nat.reduceLeDiff, Nat.reduceAdd, Int.natCast_nonneg, Int.ofNat_lt, List.length_map, decide_true, weaks_items, hx, hw] <;> rfl) ?_
          have hqe : q = out.length := by have := of_decide_eq_false hc3; omega
          have hin1 : ∀ b ∈ out, b ∈ xs1 := fun b hb => (List.mem_filter.1 (q1.subset hb)).1
          have hin2 : ∀ b ∈ xs2, b ∈ xs1 := fun b hb => (List.mem_filter.1 (q2.subset hb)).1
          refine Run.lp ⟨⟨j + 1, nw, xs2, got ++ out, k8, L1, L2, by rw [hqe, List.take_length], wf8, A8, B8, ap7, ?_, ?_, ?_, ?_, htk8, by omega⟩, ?_⟩
          · rw [List.append_assoc]
            exact ((due_perm q1 q2).append_left got).trans pg
          · exact List.pairwise_append.2 ⟨hsort, q3, fun a ha b hb => hcross a ha b (hin1 b hb)⟩
          · intro a ha b hb
            rcases List.mem_append.1 ha with ha | ha
            · exact hcross a ha b (hin2 b hb)
            · exact tick_nlt (of_decide_eq_true (List.mem_filter.1 (q1.subset ha)).2) (of_decide_eq_true (List.mem_filter.1 (q2.subset hb)).2)
          · rw [List.length_append, ← hqe]; exact hgr8
          · simp only [ivar, go_sem, ↓reduceIte, Nat.reduceEqDiff]
            omega
      · have hc := hc2
        refine Run.exit ?_
        show Run _ _ _ _ _ _
        refine Run.seq ?_
        refine Run.region ?_
        refine RunO.ops (pre := [_, _]) (by simp only [go_sem, ↓reduceIte, Nat.reduceEqDiff, Nat.reduceLT, Nat.reduceLeDiff, Nat.reduceAdd, Int.natCast_nonneg, Int.ofNat_lt, List.length_map, decide_true, weaks_items] <;> rfl) ?_
        refine RunO.callw (by simp only [go_sem, ↓reduceIte, Nat.reduceEqDiff, Nat.reduceLT, Nat.reduceLeDiff, Nat.reduceAdd, Int.natCast_nonneg, Int.ofNat_lt, List.length_map, decide_true, weaks_items] <;> rfl) (by simp only [go_sem, ↓reduceIte, Nat.reduceEqDiff, Nat.reduceLT, Nat.reduceLeDiff, Nat.reduceAdd, Int.natCast_nonneg, Int.ofNat_lt, List.length_map, decide_true, weaks_items] <;> rfl) (by simp only [go_sem, ↓reduceIte, Nat.reduceEqDiff, Nat.reduceLT, Nat.reduceLeDiff, Nat.reduceAdd, Int.natCast_nonneg, Int.ofNat_lt, List.length_map, decide_true, weaks_items] <;> rfl) (by kernel_rfl) (((hold_Due A6 (by have := pg.length_eq; simp at this; omega)).wf).mono ?_)
        rintro r7 s7 ⟨wf7, out, xs2, rfl, A7, mA, q1, q2, q3⟩
        have B7 := B6.other wf6 mA ap6
        have ap7 := ap6.move wf6 B6 mA
        have hgr7 : Grows s7 k (got.map Item.pv).length 3 := by
          rw [List.length_map]
          exact hgr6.mono fun t ht => mA.rest t (htk6 t 3 ht) (hgr6.hne A6 ht).1 (hgr6.hne A6 ht).2
        refine RunO.grow' (by simp only [go_sem, ↓reduceIte, Nat.reduceEqDiff, Nat.reduceLT, Nat.reduceLeDiff, Nat.reduceAdd, Int.natCast_nonneg, Int.ofNat_lt, List.length_map, decide_true, weaks_items] <;> rfl) (by simp only [go_sem, ↓reduceIte, Nat.reduceEqDiff, Nat.reduceLT, Nat.reduceLeDiff, Nat.reduceAdd, Int.natCast_nonneg, Int.ofNat_lt, List.length_map, decide_true, weaks_items] <;> rfl) (by simp only [go_sem, ↓reduceIte, Nat.reduceEqDiff, Nat.reduceLT, Nat.reduceLeDiff, Nat.reduceAdd, Int.natCast_nonneg, Int.ofNat_lt, List.length_map, decide_true, weaks_items] <;> rfl) Try.td32 (by rw [Try.zp37]; rfl) (isEls_items _) (isEls_items _) (by rw [Try.by37]; decide) (by rw [Try.by37]; have := pg.length_eq; have := q1.length_eq; have := List.length_filter_le (fun a => decide (a.tick ≤ 2000)) xs1; simp at *; omega) (by rw [Try.cz37]; exact hgr7) ?_
        intro k9 s9 hgr10 htm
        have A9 := A7.tmove wf7 hgr7 htm
        have B9 := B7.tmove wf7 hgr7 htm
        have wf9 := htm.wf wf7
        refine RunO.all (by simp only [go_sem, ↓reduceIte, Nat.reduceEqDiff, Nat.reduceLT, Nat.reduceLeDiff, Nat.reduceAdd, Int.natCast_nonneg, Int.ofNat_lt, List.length_map, decide_true, weaks_items] <;> rfl) ?_
        refine RunO.live' [5, 6, 8] (by simp only [go_sem, ↓reduceIte, Nat.reduceEqDiff, Nat.reduceLT, Nat.reduceLeDiff, Nat.reduceAdd, Int.natCast_nonneg, Int.ofNat_lt, List.length_map, decide_true, weaks_items] <;> rfl) ?_
        refine Run.seq ?_
        have hma : got.map Item.pv ++ out.map Item.pv = (got ++ out).map Item.pv := List.map_append.symm
        refine Run.region ?_
        refine RunO.ops (pre := [_, _]) (by simp only [go_sem, ↓reduceIte, Nat.reduceEqDiff, Nat.reduceLT, Nat.reduceLeDiff, Nat.reduceAdd, Int.natCast_nonneg, Int.ofNat_lt, List.length_map, decide_true, weaks_items, hma] <;> rfl) ?_
        refine RunO.callw (by simp only [go_sem, ↓reduceIte, Nat.reduceEqDiff, Nat.reduceLT, Nat.reduceLeDiff, Nat.reduceAdd, Int.natCast_nonneg, Int.ofNat_lt, List.length_map, decide_true, weaks_items, hma] <;> rfl) (by simp only [go_sem, ↓reduceIte, Nat.reduceEqDiff, Nat.reduceLT, Nat.reduceLeDiff, Nat.reduceAdd, Int.natCast_nonneg, Int.ofNat_lt, List.length_map, decide_true, weaks_items, hma] <;> rfl) (by simp only [go_sem, ↓reduceIte, Nat.reduceEqDiff, Nat.reduceLT, Nat.reduceLeDiff, Nat.reduceAdd, Int.natCast_nonneg, Int.ofNat_lt, List.length_map, decide_true, weaks_items, hma] <;> rfl) (by kernel_rfl) (((hold_Due B9 (by rw [← pxy.length_eq]; omega)).wf).mono ?_)
        rintro r10 s10 ⟨wf10, outB, ys2, rfl, B10, mB, u1, u2, u3⟩
        have A10 := A9.other wf9 mB ap7.symm
        have hall : ∀ x ∈ xs, x.tick ≤ 2000 := fun x hx => by have := (hxs x hx).1; omega
        have hin1 : ∀ b ∈ xs1, b ∈ xs := fun b hb => pg.subset (by simp [hb])
        have e1 : xs1.filter (fun a => decide (a.tick ≤ 2000)) = xs1 := List.filter_eq_self.2 fun a ha => by simpa using hall a (hin1 a ha)
        have e2 : ys.filter (fun a => decide (a.tick ≤ 2000)) = ys := List.filter_eq_self.2 fun a ha => by simpa using hall a (pxy.symm.subset ha)
        have e3 : xs2 = [] := by
          have : xs1.filter (fun a => decide ((2000 : Int) < a.tick)) = [] := List.filter_eq_nil_iff.2 fun a ha => by have := hall a (hin1 a ha); simp; omega
          rw [this] at q2
          exact List.perm_nil.1 q2
        rw [e1] at q1
        rw [e2] at u1
        have hperm : (got ++ out).Perm outB := ((q1.append_left got).trans pg).trans (pxy.trans u1.symm)
        have heq : got ++ out = outB := sorted_one hperm (List.pairwise_append.2 ⟨hsort, q3, fun a ha b hb => hcross a ha b (q1.subset hb)⟩) u3 (((hperm.trans (u1.trans pxy.symm)).map Item.order).nodup_iff.2 hnd)
        subst e3
        subst heq
        refine RunO.callw (by simp only [go_sem, ↓reduceIte, Nat.reduceEqDiff, Nat.reduceLT, Nat.reduceLeDiff, Nat.reduceAdd, Int.natCast_nonneg, Int.ofNat_lt, List.length_map, decide_true, weaks_items, hma] <;> rfl) (by simp only [go_sem, ↓reduceIte, Nat.reduceEqDiff, Nat.reduceLT, Nat.reduceLeDiff, Nat.reduceAdd, Int.natCast_nonneg, Int.ofNat_lt, List.length_map, decide_true, weaks_items, hma] <;> rfl) (by simp only [go_sem, ↓reduceIte, Nat.reduceEqDiff, Nat.reduceLT, Nat.reduceLeDiff, Nat.reduceAdd, Int.natCast_nonneg, Int.ofNat_lt, List.length_map, decide_true, weaks_items, hma] <;> rfl) (by kernel_rfl) ((same_ (xs := got ++ out) (ys := got ++ out) (by have := pg.length_eq; have := q1.length_eq; simp at *; omega)).mono ?_)
        rintro r11 s11 ⟨rfl, hs⟩
        subst s11
        refine RunO.ops (pre := [_]) (by simp only [go_sem, ↓reduceIte, Nat.reduceEqDiff, Nat.reduceLT, Nat.reduceLeDiff, Nat.reduceAdd, Int.natCast_nonneg, Int.ofNat_lt, List.length_map, decide_true, weaks_items, hma] <;> rfl) ?_
        refine RunO.bcase 89 (by simp only [go_sem, ↓reduceIte, Nat.reduceEqDiff, Nat.reduceLT, Nat.reduceLeDiff, Nat.reduceAdd, Int.natCast_nonneg, Int.ofNat_lt, List.length_map, decide_true, weaks_items, hma] <;> rfl) (fun hg4 => ?_) (fun hg4 => ?_)
        · refine RunO.gdo (by simp only [go_sem, ↓reduceIte, Nat.reduceEqDiff, Nat.reduceLT, Nat.reduceLeDiff, Nat.reduceAdd, Int.natCast_nonneg, Int.ofNat_lt, List.length_map, decide_true, weaks_items, hma] <;> rfl) (by simp only [go_sem, ↓reduceIte, Nat.reduceEqDiff, Nat.reduceLT, Nat.reduceLeDiff, Nat.reduceAdd, Int.natCast_nonneg, Int.ofNat_lt, List.length_map, decide_true, weaks_items, hma] <;> rfl) ?_
          refine RunO.callw (by simp only [go_sem, ↓reduceIte, Nat.reduceEqDiff, Nat.reduceLT, Nat.reduceLeDiff, Nat.reduceAdd, Int.natCast_nonneg, Int.ofNat_lt, List.length_map, decide_true, weaks_items, hma] <;> rfl) (by simp only [go_sem, ↓reduceIte, Nat.reduceEqDiff, Nat.reduceLT, Nat.reduceLeDiff, Nat.reduceAdd, Int.natCast_nonneg, Int.ofNat_lt, List.length_map, decide_true, weaks_items, hma] <;> rfl) (by simp only [go_sem, ↓reduceIte, Nat.reduceEqDiff, Nat.reduceLT, Nat.reduceLeDiff, Nat.reduceAdd, Int.natCast_nonneg, Int.ofNat_lt, List.length_map, decide_true, weaks_items, hma] <;> rfl) (by kernel_rfl) ((hold_Len A10).mono ?_)
          rintro r12 s12 ⟨hr12, hs⟩
          subst s12
          obtain rfl : r12 = .int .i64 0 := hr12
          refine RunO.gdo (by simp only [go_sem, ↓reduceIte, Nat.reduceEqDiff, Nat.reduceLT, Nat.reduceLeDiff, Nat.reduceAdd, Int.natCast_nonneg, Int.ofNat_lt, List.length_map, decide_true, weaks_items, hma] <;> rfl) (by simp only [go_sem, ↓reduceIte, Nat.reduceEqDiff, Nat.reduceLT, Nat.reduceLeDiff, Nat.reduceAdd, Int.natCast_nonneg, Int.ofNat_lt, List.length_map, decide_true, weaks_items, hma] <;> rfl) ?_
          refine RunO.ops (pre := [_, _]) (by simp only [go_sem, ↓reduceIte, Nat.reduceEqDiff, Nat.reduceLT, Nat.reduceLeDiff, Nat.reduceAdd, Int.natCast_nonneg, Int.ofNat_lt, List.length_map, decide_true, weaks_items, hma] <;> rfl) ?_
          refine RunO.bcase 94 (by simp only [go_sem, ↓reduceIte, Nat.reduceEqDiff, Nat.reduceLT, Nat.reduceLeDiff, Nat.reduceAdd, Int.natCast_nonneg, Int.ofNat_lt, List.length_map, decide_true, weaks_items, hma] <;> rfl) (fun hg9 => ?_) (fun hg9 => ?_)
          · refine RunO.callw (by simp only [go_sem, ↓reduceIte, Nat.reduceEqDiff, Nat.reduceLT, Nat.reduceLeDiff, Nat.reduceAdd, Int.natCast_nonneg, Int.ofNat_lt, List.length_map, decide_true, weaks_items, hma] <;> rfl) (by simp only [go_sem, ↓reduceIte, Nat.reduceEqDiff, Nat.reduceLT, Nat.reduceLeDiff, Nat.reduceAdd, Int.natCast_nonneg, Int.ofNat_lt, List.length_map, decide_true, weaks_items, hma] <;> rfl) (by simp only [go_sem, ↓reduceIte, Nat.reduceEqDiff, Nat.reduceLT, Nat.reduceLeDiff, Nat.reduceAdd, Int.natCast_nonneg, Int.ofNat_lt, List.length_map, decide_true, weaks_items, hma] <;> rfl) (by kernel_rfl) ((known_).mono ?_)
            rintro r13 s13 ⟨rfl, _, _⟩
            refine RunO.all (by simp only [go_sem, ↓reduceIte, Nat.reduceEqDiff, Nat.reduceLT, Nat.reduceLeDiff, Nat.reduceAdd, Int.natCast_nonneg, Int.ofNat_lt, List.length_map, decide_true, weaks_items, hma] <;> rfl) ?_
            refine RunO.live' [4] (by simp only [go_sem, ↓reduceIte, Nat.reduceEqDiff, Nat.reduceLT, Nat.reduceLeDiff, Nat.reduceAdd, Int.natCast_nonneg, Int.ofNat_lt, List.length_map, decide_true, weaks_items, hma] <;> rfl) ?_
            refine Run.ret ?_
            exact Ret.all (by simp only [Try.f7, go_sem] <;> rfl) rfl
          · cases hg9
        · cases hg4

end Go.Proofs
