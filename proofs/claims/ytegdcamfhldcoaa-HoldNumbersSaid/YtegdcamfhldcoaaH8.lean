import Derived.Test.YtegdcamfhldcoaaH6
import Derived.Test.YtegdcamfhldcoaaPmZ
namespace Go.Proofs
open Go.PM
set_option maxHeartbeats 1000000
set_option linter.unusedSimpArgs false
set_option linter.unusedVariables false

/-- how many of a key -/
def goneF (key : Int) (l : List Item) : Nat := (l.filter (fun a => decide (a.key = key))).length

theorem gone_keep (key : Int) (l : List Item) : goneF key l + (keepF key l).length = l.length := by
  unfold goneF keepF
  induction l with
  | nil => rfl
  | cons a l ih =>
    simp only [List.filter_cons, List.length_cons]
    by_cases h : a.key = key <;> simp [h] <;> simp at ih <;> omega

theorem gone_snoc (key : Int) (l : List Item) (x : Item) : goneF key (l ++ [x]) = goneF key l + if x.key = key then 1 else 0 := by
  unfold goneF
  rw [List.filter_append, List.length_append]
  by_cases h : x.key = key <;> simp [h]

theorem gone_perm {key : Int} {l m : List Item} (h : l.Perm m) : goneF key l = goneF key m := (h.filter _).length_eq
theorem gone_keepF (key : Int) (l : List Item) : goneF key (keepF key l) = 0 := by
  unfold goneF keepF
  rw [List.filter_filter, List.length_eq_zero_iff, List.filter_eq_nil_iff]
  simp
theorem gone_le (key : Int) (l : List Item) : goneF key l ≤ l.length := List.length_filter_le _ _
theorem tk_le {l : List Int} {i : Nat} {m : Int} (h : ∀ t ∈ l, t ≤ m) (hi : i < l.length) : tk l i ≤ m := by
  unfold tk
  rw [List.getElem?_eq_getElem hi]
  exact h _ (List.getElem_mem _)
theorem due_all {xs out : List Item} (h : out.Perm (xs.filter (fun a => decide (a.tick ≤ 9223372036854775807)))) (hx : ∀ a ∈ xs, a.tick ≤ 9223372036854775807) : out.Perm xs := by
  rwa [List.filter_eq_self.2 fun a ha => by simpa using hx a ha] at h

set_option maxRecDepth 100000 in
theorem holdDrops_ {ticks keys : List Int} {drop : Int} (hfit : ∀ t ∈ ticks, t ≤ 9223372036854775807) {s : St} : ACalls Try.prog 6 [.sl .unk (ticks.map (PV.int .i64)), .sl .unk (keys.map (PV.int .i64)), .int .i64 drop] s (fun r s' => r = .bool true) := by
  refine ACalls.body Try.func6 rfl (by simp [Try.f6]) (by decide) fun hwf => ?_
  show Run _ _ [.code _] _ _ _
  refine Run.seq ?_
  refine Run.region ?_
  refine RunO.all (by simp only [go_sem, ↓reduceIte, Nat.reduceEqDiff, Nat.reduceLT, Nat.reduceLeDiff, Nat.reduceAdd, Int.natCast_nonneg, Int.ofNat_lt, List.length_map, decide_true, decide_false, ne_eq, not_true_eq_false, not_false_eq_true, weaks_items] <;> rfl) ?_
  refine RunO.live' [0, 1, 2] (by simp only [go_sem, ↓reduceIte, Nat.reduceEqDiff, Nat.reduceLT, Nat.reduceLeDiff, Nat.reduceAdd, Int.natCast_nonneg, Int.ofNat_lt, List.length_map, decide_true, decide_false, ne_eq, not_true_eq_false, not_false_eq_true, weaks_items] <;> rfl) ?_
  refine Run.seq ?_
  refine Run.region ?_
  refine RunO.callw (by simp only [go_sem, ↓reduceIte, Nat.reduceEqDiff, Nat.reduceLT, Nat.reduceLeDiff, Nat.reduceAdd, Int.natCast_nonneg, Int.ofNat_lt, List.length_map, decide_true, decide_false, ne_eq, not_true_eq_false, not_false_eq_true, weaks_items] <;> rfl) (by simp only [go_sem, ↓reduceIte, Nat.reduceEqDiff, Nat.reduceLT, Nat.reduceLeDiff, Nat.reduceAdd, Int.natCast_nonneg, Int.ofNat_lt, List.length_map, decide_true, decide_false, ne_eq, not_true_eq_false, not_false_eq_true, weaks_items] <;> rfl) (by simp only [go_sem, ↓reduceIte, Nat.reduceEqDiff, Nat.reduceLT, Nat.reduceLeDiff, Nat.reduceAdd, Int.natCast_nonneg, Int.ofNat_lt, List.length_map, decide_true, decide_false, ne_eq, not_true_eq_false, not_false_eq_true, weaks_items] <;> rfl) (by kernel_rfl) ((hold_New.wf).mono ?_)
  rintro r1 s1 ⟨wf1, rfl, A1, nA, frA⟩
  refine RunO.all (by simp only [go_sem, ↓reduceIte, Nat.reduceEqDiff, Nat.reduceLT, Nat.reduceLeDiff, Nat.reduceAdd, Int.natCast_nonneg, Int.ofNat_lt, List.length_map, decide_true, decide_false, ne_eq, not_true_eq_false, not_false_eq_true, weaks_items] <;> rfl) ?_
  refine RunO.live' [0, 1, 2, 7] (by simp only [go_sem, ↓reduceIte, Nat.reduceEqDiff, Nat.reduceLT, Nat.reduceLeDiff, Nat.reduceAdd, Int.natCast_nonneg, Int.ofNat_lt, List.length_map, decide_true, decide_false, ne_eq, not_true_eq_false, not_false_eq_true, weaks_items] <;> rfl) ?_
  refine Run.seq ?_
  refine Run.seq ?_
  refine Run.region ?_
  refine RunO.all (by simp only [go_sem, ↓reduceIte, Nat.reduceEqDiff, Nat.reduceLT, Nat.reduceLeDiff, Nat.reduceAdd, Int.natCast_nonneg, Int.ofNat_lt, List.length_map, decide_true, decide_false, ne_eq, not_true_eq_false, not_false_eq_true, weaks_items] <;> rfl) ?_
  refine RunO.live' [0, 1, 2, 7, 17] (by simp only [go_sem, ↓reduceIte, Nat.reduceEqDiff, Nat.reduceLT, Nat.reduceLeDiff, Nat.reduceAdd, Int.natCast_nonneg, Int.ofNat_lt, List.length_map, decide_true, decide_false, ne_eq, not_true_eq_false, not_false_eq_true, weaks_items] <;> rfl) ?_
  refine Run.cond (by simp only [go_sem, ↓reduceIte, Nat.reduceEqDiff, Nat.reduceLT, Nat.reduceLeDiff, Nat.reduceAdd, Int.natCast_nonneg, Int.ofNat_lt, List.length_map, decide_true, decide_false, ne_eq, not_true_eq_false, not_false_eq_true, weaks_items] <;> rfl) (fun hc0 => ?_) (fun hc0 => ?_)
  · cases hc0
  · have hc := hc0
    refine Run.skip ?_
    refine Run.seq ?_
    refine Run.region ?_
    refine RunO.all (by simp only [go_sem, ↓reduceIte, Nat.reduceEqDiff, Nat.reduceLT, Nat.reduceLeDiff, Nat.reduceAdd, Int.natCast_nonneg, Int.ofNat_lt, List.length_map, decide_true, decide_false, ne_eq, not_true_eq_false, not_false_eq_true, weaks_items] <;> rfl) ?_
    refine RunO.live' [0, 1, 7, 8, 9, 10] (by simp only [go_sem, ↓reduceIte, Nat.reduceEqDiff, Nat.reduceLT, Nat.reduceLeDiff, Nat.reduceAdd, Int.natCast_nonneg, Int.ofNat_lt, List.length_map, decide_true, decide_false, ne_eq, not_true_eq_false, not_false_eq_true, weaks_items] <;> rfl) ?_
    refine Run.seq ?_
    refine Run.seq ?_
    generalize hk : ibits .and .i64 drop 3 = k
    refine Run.region ?_
    refine RunO.all (by simp only [go_sem, ↓reduceIte, Nat.reduceEqDiff, Nat.reduceLT, Nat.reduceLeDiff, Nat.reduceAdd, Int.natCast_nonneg, Int.ofNat_lt, List.length_map, decide_true, decide_false, ne_eq, not_true_eq_false, not_false_eq_true, weaks_items] <;> rfl) ?_
    refine RunO.live' [0, 1, 7, 8, 9, 10, 11] (by simp only [go_sem, ↓reduceIte, Nat.reduceEqDiff, Nat.reduceLT, Nat.reduceLeDiff, Nat.reduceAdd, Int.natCast_nonneg, Int.ofNat_lt, List.length_map, decide_true, decide_false, ne_eq, not_true_eq_false, not_false_eq_true, weaks_items] <;> rfl) ?_
    refine Run.block ?_
    -- loop 0, live [0, 1, 7, 8, 9, 10, 11]
    refine Run.loop (fun e s' => ∃ (i : Nat) (xs : List Item) (L : Option Nat), e = [(0, .sl .unk (ticks.map (PV.int .i64))), (1, .sl .unk (keys.map (PV.int .i64))), (7, .ptr s.nxt 0 0), (8, .int .i64 k), (9, .int .i64 (goneF k xs)), (10, .int .i64 i), (11, .int .i64 i)] ∧ s'.wf ∧ HoldAt s' s.nxt xs i L ∧ xs.length = i ∧ i ≤ 50 ∧ (∀ a ∈ xs, a.tick ≤ 9223372036854775807)) (fun e s' => 50 - ivar e 11) ?_ ?_
    · exact ⟨0, [], none, rfl, wf1, A1, rfl, by omega, by simp⟩
    rintro e s3 ⟨i, xs, L, rfl, wf3, A3, hxl, hi, hxs⟩
    refine Run.seq ?_
    refine Run.seq ?_
    refine Run.region ?_
    refine RunO.all (by simp only [go_sem, ↓reduceIte, Nat.reduceEqDiff, Nat.reduceLT, Nat.reduceLeDiff, Nat.reduceAdd, Int.natCast_nonneg, Int.ofNat_lt, List.length_map, decide_true, decide_false, ne_eq, not_true_eq_false, not_false_eq_true, weaks_items] <;> rfl) ?_
    refine RunO.live' [0, 1, 7, 8, 9, 10, 11, 33] (by simp only [go_sem, ↓reduceIte, Nat.reduceEqDiff, Nat.reduceLT, Nat.reduceLeDiff, Nat.reduceAdd, Int.natCast_nonneg, Int.ofNat_lt, List.length_map, decide_true, decide_false, ne_eq, not_true_eq_false, not_false_eq_true, weaks_items] <;> rfl) ?_
    refine Run.cond (by simp only [go_sem, ↓reduceIte, Nat.reduceEqDiff, Nat.reduceLT, Nat.reduceLeDiff, Nat.reduceAdd, Int.natCast_nonneg, Int.ofNat_lt, List.length_map, decide_true, decide_false, ne_eq, not_true_eq_false, not_false_eq_true, weaks_items] <;> rfl) (fun hc1 => ?_) (fun hc1 => ?_)
    · have hc := hc1
      refine Run.skip ?_
      refine Run.seq ?_
      refine Run.block ?_
      refine Run.seq ?_
      have hi50 : i < 50 ∧ i < ticks.length ∧ i < keys.length := by simp at hc1; omega
      have hx := map_tk hi50.2.1
      have hy := map_tk hi50.2.2
      have hg0 := gone_le k xs
      have hw : IntKind.i64.wrap ((i : Int) + 1) = ((i + 1 : Nat) : Int) := by rw [wrap_i64 (by omega)]; omega
      have hwg : IntKind.i64.wrap ((goneF k xs : Int) + 1) = ((goneF k xs + 1 : Nat) : Int) := by rw [wrap_i64 (by omega)]; omega
      obtain ⟨kk, hkk⟩ : ∃ kk, ibits .and .i64 (tk keys i) 3 = kk := ⟨_, rfl⟩
      refine Run.drawCut 10 [] Try.mixed (by kernel_rfl) (by kernel_rfl) ?_
      refine DetC.all (by simp only [go_sem, ↓reduceIte, Nat.reduceEqDiff, Nat.reduceLT, Nat.reduceLeDiff, Nat.reduceAdd, Int.natCast_nonneg, Int.ofNat_lt, List.length_map, decide_true, decide_false, ne_eq, not_true_eq_false, not_false_eq_true, weaks_items, hx, hy, hw, hwg, hkk] <;> rfl) ?_
      refine RunO.callw (by simp only [go_sem, ↓reduceIte, Nat.reduceEqDiff, Nat.reduceLT, Nat.reduceLeDiff, Nat.reduceAdd, Int.natCast_nonneg, Int.ofNat_lt, List.length_map, decide_true, decide_false, ne_eq, not_true_eq_false, not_false_eq_true, weaks_items, hx, hy, hw, hwg, hkk] <;> rfl) (by simp only [go_sem, ↓reduceIte, Nat.reduceEqDiff, Nat.reduceLT, Nat.reduceLeDiff, Nat.reduceAdd, Int.natCast_nonneg, Int.ofNat_lt, List.length_map, decide_true, decide_false, ne_eq, not_true_eq_false, not_false_eq_true, weaks_items, hx, hy, hw, hwg, hkk] <;> rfl) (by simp only [go_sem, ↓reduceIte, Nat.reduceEqDiff, Nat.reduceLT, Nat.reduceLeDiff, Nat.reduceAdd, Int.natCast_nonneg, Int.ofNat_lt, List.length_map, decide_true, decide_false, ne_eq, not_true_eq_false, not_false_eq_true, weaks_items, hx, hy, hw, hwg, hkk] <;> rfl) (by kernel_rfl) (((hold_Put (A3.lt wf3) A3 (by omega) (by omega)).wf).mono ?_)
      rintro r4 s4 ⟨wf4, _, xs', L', A4, pA, mA⟩
      refine RunO.live' [0, 1, 7, 8, 9, 10, 11] (by simp only [go_sem, ↓reduceIte, Nat.reduceEqDiff, Nat.reduceLT, Nat.reduceLeDiff, Nat.reduceAdd, Int.natCast_nonneg, Int.ofNat_lt, List.length_map, decide_true, decide_false, ne_eq, not_true_eq_false, not_false_eq_true, weaks_items, hx, hy, hw, hwg, hkk] <;> rfl) ?_
      refine Run.seq ?_
      refine Run.region ?_
      refine RunO.all (by simp only [go_sem, ↓reduceIte, Nat.reduceEqDiff, Nat.reduceLT, Nat.reduceLeDiff, Nat.reduceAdd, Int.natCast_nonneg, Int.ofNat_lt, List.length_map, decide_true, decide_false, ne_eq, not_true_eq_false, not_false_eq_true, weaks_items, hx, hy, hw, hwg, hkk] <;> rfl) ?_
      refine RunO.live' [0, 1, 7, 8, 9, 10, 11] (by simp only [go_sem, ↓reduceIte, Nat.reduceEqDiff, Nat.reduceLT, Nat.reduceLeDiff, Nat.reduceAdd, Int.natCast_nonneg, Int.ofNat_lt, List.length_map, decide_true, decide_false, ne_eq, not_true_eq_false, not_false_eq_true, weaks_items, hx, hy, hw, hwg, hkk] <;> rfl) ?_
      refine Run.seq ?_
      refine Run.region ?_
      refine RunO.all (by simp only [go_sem, ↓reduceIte, Nat.reduceEqDiff, Nat.reduceLT, Nat.reduceLeDiff, Nat.reduceAdd, Int.natCast_nonneg, Int.ofNat_lt, List.length_map, decide_true, decide_false, ne_eq, not_true_eq_false, not_false_eq_true, weaks_items, hx, hy, hw, hwg, hkk] <;> rfl) ?_
      refine RunO.live' [0, 1, 7, 8, 9, 10, 11, 55] (by simp only [go_sem, ↓reduceIte, Nat.reduceEqDiff, Nat.reduceLT, Nat.reduceLeDiff, Nat.reduceAdd, Int.natCast_nonneg, Int.ofNat_lt, List.length_map, decide_true, decide_false, ne_eq, not_true_eq_false, not_false_eq_true, weaks_items, hx, hy, hw, hwg, hkk] <;> rfl) ?_
      refine Run.cond (by simp only [go_sem, ↓reduceIte, Nat.reduceEqDiff, Nat.reduceLT, Nat.reduceLeDiff, Nat.reduceAdd, Int.natCast_nonneg, Int.ofNat_lt, List.length_map, decide_true, decide_false, ne_eq, not_true_eq_false, not_false_eq_true, weaks_items, hx, hy, hw, hwg, hkk] <;> rfl) (fun hc2 => ?_) (fun hc2 => ?_)
      · have hc := hc2
        refine Run.region ?_
        refine RunO.all (by simp only [go_sem, ↓reduceIte, Nat.reduceEqDiff, Nat.reduceLT, Nat.reduceLeDiff, Nat.reduceAdd, Int.natCast_nonneg, Int.ofNat_lt, List.length_map, decide_true, decide_false, ne_eq, not_true_eq_false, not_false_eq_true, weaks_items, hx, hy, hw, hwg, hkk] <;> rfl) ?_
        refine RunO.live' [0, 1, 7, 8, 9, 10, 11] (by simp only [go_sem, ↓reduceIte, Nat.reduceEqDiff, Nat.reduceLT, Nat.reduceLeDiff, Nat.reduceAdd, Int.natCast_nonneg, Int.ofNat_lt, List.length_map, decide_true, decide_false, ne_eq, not_true_eq_false, not_false_eq_true, weaks_items, hx, hy, hw, hwg, hkk] <;> rfl) ?_
        refine Run.blk ?_
        refine Run.region ?_
        refine RunO.all (by simp only [go_sem, ↓reduceIte, Nat.reduceEqDiff, Nat.reduceLT, Nat.reduceLeDiff, Nat.reduceAdd, Int.natCast_nonneg, Int.ofNat_lt, List.length_map, decide_true, decide_false, ne_eq, not_true_eq_false, not_false_eq_true, weaks_items, hx, hy, hw, hwg, hkk] <;> rfl) ?_
        refine RunO.live' [0, 1, 7, 8, 9, 10, 11] (by simp only [go_sem, ↓reduceIte, Nat.reduceEqDiff, Nat.reduceLT, Nat.reduceLeDiff, Nat.reduceAdd, Int.natCast_nonneg, Int.ofNat_lt, List.length_map, decide_true, decide_false, ne_eq, not_true_eq_false, not_false_eq_true, weaks_items, hx, hy, hw, hwg, hkk] <;> rfl) ?_
        have hg : goneF k xs' = goneF k xs + if kk = k then 1 else 0 := by
          rw [gone_perm pA, gone_snoc]
        first
          | rw [if_pos (of_decide_eq_true hc2)] at hg
          | rw [if_neg (of_decide_eq_false hc2)] at hg
        refine Run.lp ⟨⟨i + 1, xs', L', by first | (rw [hg]; done) | (rw [hg]; rfl), wf4, A4, ?_, by omega, fun a ha => ?_⟩, ?_⟩
        · have := pA.length_eq
          simp at this
          omega
        · rcases List.mem_append.1 (pA.subset ha) with h | h
          · exact hxs a h
          · rw [List.mem_singleton.1 h]
            exact tk_le hfit hi50.2.1
        · simp only [ivar, go_sem, ↓reduceIte, Nat.reduceEqDiff]
          omega
      · have hc := hc2
        refine Run.skip ?_
        refine Run.blk ?_
        refine Run.region ?_
        refine RunO.all (by simp only [go_sem, ↓reduceIte, Nat.reduceEqDiff, Nat.reduceLT, Nat.reduceLeDiff, Nat.reduceAdd, Int.natCast_nonneg, Int.ofNat_lt, List.length_map, decide_true, decide_false, ne_eq, not_true_eq_false, not_false_eq_true, weaks_items, hx, hy, hw, hwg, hkk] <;> rfl) ?_
        refine RunO.live' [0, 1, 7, 8, 9, 10, 11] (by simp only [go_sem, ↓reduceIte, Nat.reduceEqDiff, Nat.reduceLT, Nat.reduceLeDiff, Nat.reduceAdd, Int.natCast_nonneg, Int.ofNat_lt, List.length_map, decide_true, decide_false, ne_eq, not_true_eq_false, not_false_eq_true, weaks_items, hx, hy, hw, hwg, hkk] <;> rfl) ?_
        have hg : goneF k xs' = goneF k xs + if kk = k then 1 else 0 := by
          rw [gone_perm pA, gone_snoc]
        first
          | rw [if_pos (of_decide_eq_true hc2)] at hg
          | rw [if_neg (of_decide_eq_false hc2)] at hg
        refine Run.lp ⟨⟨i + 1, xs', L', by first | (rw [hg]; done) | (rw [hg]; rfl), wf4, A4, ?_, by omega, fun a ha => ?_⟩, ?_⟩
        · have := pA.length_eq
          simp at this
          omega
        · rcases List.mem_append.1 (pA.subset ha) with h | h
          · exact hxs a h
          · rw [List.mem_singleton.1 h]
            exact tk_le hfit hi50.2.1
        · simp only [ivar, go_sem, ↓reduceIte, Nat.reduceEqDiff]
          omega
    · have hc := hc1
      refine Run.exit ?_
      show Run _ _ _ _ _ _
      refine Run.seq ?_
      refine Run.seq ?_
      refine Run.region ?_
      refine RunO.ops (pre := [_, _]) (by simp only [go_sem, ↓reduceIte, Nat.reduceEqDiff, Nat.reduceLT, Nat.reduceLeDiff, Nat.reduceAdd, Int.natCast_nonneg, Int.ofNat_lt, List.length_map, decide_true, decide_false, ne_eq, not_true_eq_false, not_false_eq_true, weaks_items] <;> rfl) ?_
      refine RunO.callw (by simp only [go_sem, ↓reduceIte, Nat.reduceEqDiff, Nat.reduceLT, Nat.reduceLeDiff, Nat.reduceAdd, Int.natCast_nonneg, Int.ofNat_lt, List.length_map, decide_true, decide_false, ne_eq, not_true_eq_false, not_false_eq_true, weaks_items] <;> rfl) (by simp only [go_sem, ↓reduceIte, Nat.reduceEqDiff, Nat.reduceLT, Nat.reduceLeDiff, Nat.reduceAdd, Int.natCast_nonneg, Int.ofNat_lt, List.length_map, decide_true, decide_false, ne_eq, not_true_eq_false, not_false_eq_true, weaks_items] <;> rfl) (by simp only [go_sem, ↓reduceIte, Nat.reduceEqDiff, Nat.reduceLT, Nat.reduceLeDiff, Nat.reduceAdd, Int.natCast_nonneg, Int.ofNat_lt, List.length_map, decide_true, decide_false, ne_eq, not_true_eq_false, not_false_eq_true, weaks_items] <;> rfl) (by kernel_rfl) (((hold_Drop A3 (by omega)).wf).mono ?_)
      rintro r5 s5 ⟨wf5, xs5, hr5, A5, m5, p5⟩
      obtain rfl : r5 = .int .i64 (goneF k xs) := by
        rw [hr5, p5.length_eq]
        have := gone_keep k xs
        congr 1
        omega
      refine RunO.ops (pre := [_, _, _]) (by simp only [go_sem, ↓reduceIte, Nat.reduceEqDiff, Nat.reduceLT, Nat.reduceLeDiff, Nat.reduceAdd, Int.natCast_nonneg, Int.ofNat_lt, List.length_map, decide_true, decide_false, ne_eq, not_true_eq_false, not_false_eq_true, weaks_items] <;> rfl) ?_
      refine RunO.bcase 63 (by simp only [go_sem, ↓reduceIte, Nat.reduceEqDiff, Nat.reduceLT, Nat.reduceLeDiff, Nat.reduceAdd, Int.natCast_nonneg, Int.ofNat_lt, List.length_map, decide_true, decide_false, ne_eq, not_true_eq_false, not_false_eq_true, weaks_items] <;> rfl) (fun hg5 => ?_) (fun hg5 => ?_)
      · cases hg5
      · refine RunO.gdo (by simp only [go_sem, ↓reduceIte, Nat.reduceEqDiff, Nat.reduceLT, Nat.reduceLeDiff, Nat.reduceAdd, Int.natCast_nonneg, Int.ofNat_lt, List.length_map, decide_true, decide_false, ne_eq, not_true_eq_false, not_false_eq_true, weaks_items] <;> rfl) (by simp only [go_sem, ↓reduceIte, Nat.reduceEqDiff, Nat.reduceLT, Nat.reduceLeDiff, Nat.reduceAdd, Int.natCast_nonneg, Int.ofNat_lt, List.length_map, decide_true, decide_false, ne_eq, not_true_eq_false, not_false_eq_true, weaks_items] <;> rfl) ?_
        refine RunO.gdo (by simp only [go_sem, ↓reduceIte, Nat.reduceEqDiff, Nat.reduceLT, Nat.reduceLeDiff, Nat.reduceAdd, Int.natCast_nonneg, Int.ofNat_lt, List.length_map, decide_true, decide_false, ne_eq, not_true_eq_false, not_false_eq_true, weaks_items] <;> rfl) (by simp only [go_sem, ↓reduceIte, Nat.reduceEqDiff, Nat.reduceLT, Nat.reduceLeDiff, Nat.reduceAdd, Int.natCast_nonneg, Int.ofNat_lt, List.length_map, decide_true, decide_false, ne_eq, not_true_eq_false, not_false_eq_true, weaks_items] <;> rfl) ?_
        refine RunO.callw (by simp only [go_sem, ↓reduceIte, Nat.reduceEqDiff, Nat.reduceLT, Nat.reduceLeDiff, Nat.reduceAdd, Int.natCast_nonneg, Int.ofNat_lt, List.length_map, decide_true, decide_false, ne_eq, not_true_eq_false, not_false_eq_true, weaks_items] <;> rfl) (by simp only [go_sem, ↓reduceIte, Nat.reduceEqDiff, Nat.reduceLT, Nat.reduceLeDiff, Nat.reduceAdd, Int.natCast_nonneg, Int.ofNat_lt, List.length_map, decide_true, decide_false, ne_eq, not_true_eq_false, not_false_eq_true, weaks_items] <;> rfl) (by simp only [go_sem, ↓reduceIte, Nat.reduceEqDiff, Nat.reduceLT, Nat.reduceLeDiff, Nat.reduceAdd, Int.natCast_nonneg, Int.ofNat_lt, List.length_map, decide_true, decide_false, ne_eq, not_true_eq_false, not_false_eq_true, weaks_items] <;> rfl) (by kernel_rfl) (((hold_Drop A5 (by have := p5.length_eq; have := gone_keep k xs; omega)).wf).mono ?_)
        rintro r6 s6 ⟨wf6, xs6, hr6, A6, m6, p6⟩
        have hl6 : xs6.length = xs5.length := by
          have h1 := gone_keep k xs5
          have h2 := gone_perm (key := k) p5
          rw [gone_keepF] at h2
          rw [p6.length_eq]
          omega
        obtain rfl : r6 = .int .i64 0 := by
          rw [hr6, hl6]
          congr 1
          omega
        refine RunO.gdo (by simp only [go_sem, ↓reduceIte, Nat.reduceEqDiff, Nat.reduceLT, Nat.reduceLeDiff, Nat.reduceAdd, Int.natCast_nonneg, Int.ofNat_lt, List.length_map, decide_true, decide_false, ne_eq, not_true_eq_false, not_false_eq_true, weaks_items] <;> rfl) (by simp only [go_sem, ↓reduceIte, Nat.reduceEqDiff, Nat.reduceLT, Nat.reduceLeDiff, Nat.reduceAdd, Int.natCast_nonneg, Int.ofNat_lt, List.length_map, decide_true, decide_false, ne_eq, not_true_eq_false, not_false_eq_true, weaks_items] <;> rfl) ?_
        refine RunO.ops (pre := [_, _]) (by simp only [go_sem, ↓reduceIte, Nat.reduceEqDiff, Nat.reduceLT, Nat.reduceLeDiff, Nat.reduceAdd, Int.natCast_nonneg, Int.ofNat_lt, List.length_map, decide_true, decide_false, ne_eq, not_true_eq_false, not_false_eq_true, weaks_items] <;> rfl) ?_
        refine RunO.bcase 69 (by simp only [go_sem, ↓reduceIte, Nat.reduceEqDiff, Nat.reduceLT, Nat.reduceLeDiff, Nat.reduceAdd, Int.natCast_nonneg, Int.ofNat_lt, List.length_map, decide_true, decide_false, ne_eq, not_true_eq_false, not_false_eq_true, weaks_items] <;> rfl) (fun hg11 => ?_) (fun hg11 => ?_)
        · cases hg11
        · refine RunO.gdo (by simp only [go_sem, ↓reduceIte, Nat.reduceEqDiff, Nat.reduceLT, Nat.reduceLeDiff, Nat.reduceAdd, Int.natCast_nonneg, Int.ofNat_lt, List.length_map, decide_true, decide_false, ne_eq, not_true_eq_false, not_false_eq_true, weaks_items] <;> rfl) (by simp only [go_sem, ↓reduceIte, Nat.reduceEqDiff, Nat.reduceLT, Nat.reduceLeDiff, Nat.reduceAdd, Int.natCast_nonneg, Int.ofNat_lt, List.length_map, decide_true, decide_false, ne_eq, not_true_eq_false, not_false_eq_true, weaks_items] <;> rfl) ?_
          refine RunO.callw (by simp only [go_sem, ↓reduceIte, Nat.reduceEqDiff, Nat.reduceLT, Nat.reduceLeDiff, Nat.reduceAdd, Int.natCast_nonneg, Int.ofNat_lt, List.length_map, decide_true, decide_false, ne_eq, not_true_eq_false, not_false_eq_true, weaks_items] <;> rfl) (by simp only [go_sem, ↓reduceIte, Nat.reduceEqDiff, Nat.reduceLT, Nat.reduceLeDiff, Nat.reduceAdd, Int.natCast_nonneg, Int.ofNat_lt, List.length_map, decide_true, decide_false, ne_eq, not_true_eq_false, not_false_eq_true, weaks_items] <;> rfl) (by simp only [go_sem, ↓reduceIte, Nat.reduceEqDiff, Nat.reduceLT, Nat.reduceLeDiff, Nat.reduceAdd, Int.natCast_nonneg, Int.ofNat_lt, List.length_map, decide_true, decide_false, ne_eq, not_true_eq_false, not_false_eq_true, weaks_items] <;> rfl) (by kernel_rfl) ((hold_Len A6).mono ?_)
          rintro r7 s7 ⟨hr7, hs⟩
          subst s7
          have hgk := gone_keep k xs
          have hl5 := p5.length_eq
          have hlg : (xs6.length : Int) = (i : Int) - goneF k xs := by omega
          obtain rfl : r7 = .int .i64 ((i : Int) - goneF k xs) := by rw [hr7, hlg]
          have hw2 : IntKind.i64.wrap ((i : Int) - goneF k xs) = (i : Int) - goneF k xs := wrap_i64 (by omega)
          refine RunO.gdo (by simp only [go_sem, ↓reduceIte, Nat.reduceEqDiff, Nat.reduceLT, Nat.reduceLeDiff, Nat.reduceAdd, Int.natCast_nonneg, Int.ofNat_lt, List.length_map, decide_true, decide_false, ne_eq, not_true_eq_false, not_false_eq_true, weaks_items, hw2] <;> rfl) (by simp only [go_sem, ↓reduceIte, Nat.reduceEqDiff, Nat.reduceLT, Nat.reduceLeDiff, Nat.reduceAdd, Int.natCast_nonneg, Int.ofNat_lt, List.length_map, decide_true, decide_false, ne_eq, not_true_eq_false, not_false_eq_true, weaks_items, hw2] <;> rfl) ?_
          refine RunO.gdo (by simp only [go_sem, ↓reduceIte, Nat.reduceEqDiff, Nat.reduceLT, Nat.reduceLeDiff, Nat.reduceAdd, Int.natCast_nonneg, Int.ofNat_lt, List.length_map, decide_true, decide_false, ne_eq, not_true_eq_false, not_false_eq_true, weaks_items, hw2] <;> rfl) (by simp only [go_sem, ↓reduceIte, Nat.reduceEqDiff, Nat.reduceLT, Nat.reduceLeDiff, Nat.reduceAdd, Int.natCast_nonneg, Int.ofNat_lt, List.length_map, decide_true, decide_false, ne_eq, not_true_eq_false, not_false_eq_true, weaks_items, hw2] <;> rfl) ?_
          refine RunO.gdo (by simp only [go_sem, ↓reduceIte, Nat.reduceEqDiff, Nat.reduceLT, Nat.reduceLeDiff, Nat.reduceAdd, Int.natCast_nonneg, Int.ofNat_lt, List.length_map, decide_true, decide_false, ne_eq, not_true_eq_false, not_false_eq_true, weaks_items, hw2] <;> rfl) (by simp only [go_sem, ↓reduceIte, Nat.reduceEqDiff, Nat.reduceLT, Nat.reduceLeDiff, Nat.reduceAdd, Int.natCast_nonneg, Int.ofNat_lt, List.length_map, decide_true, decide_false, ne_eq, not_true_eq_false, not_false_eq_true, weaks_items, hw2] <;> rfl) ?_
          refine RunO.gdo (by simp only [go_sem, ↓reduceIte, Nat.reduceEqDiff, Nat.reduceLT, Nat.reduceLeDiff, Nat.reduceAdd, Int.natCast_nonneg, Int.ofNat_lt, List.length_map, decide_true, decide_false, ne_eq, not_true_eq_false, not_false_eq_true, weaks_items, hw2] <;> rfl) (by simp only [go_sem, ↓reduceIte, Nat.reduceEqDiff, Nat.reduceLT, Nat.reduceLeDiff, Nat.reduceAdd, Int.natCast_nonneg, Int.ofNat_lt, List.length_map, decide_true, decide_false, ne_eq, not_true_eq_false, not_false_eq_true, weaks_items, hw2] <;> rfl) ?_
          refine RunO.all (by simp only [go_sem, ↓reduceIte, Nat.reduceEqDiff, Nat.reduceLT, Nat.reduceLeDiff, Nat.reduceAdd, Int.natCast_nonneg, Int.ofNat_lt, List.length_map, decide_true, decide_false, ne_eq, not_true_eq_false, not_false_eq_true, weaks_items, hw2] <;> rfl) ?_
          refine RunO.live' [7, 8, 9, 10, 76] (by simp only [go_sem, ↓reduceIte, Nat.reduceEqDiff, Nat.reduceLT, Nat.reduceLeDiff, Nat.reduceAdd, Int.natCast_nonneg, Int.ofNat_lt, List.length_map, decide_true, decide_false, ne_eq, not_true_eq_false, not_false_eq_true, weaks_items, hw2] <;> rfl) ?_
          refine Run.cond (by simp only [go_sem, ↓reduceIte, Nat.reduceEqDiff, Nat.reduceLT, Nat.reduceLeDiff, Nat.reduceAdd, Int.natCast_nonneg, Int.ofNat_lt, List.length_map, decide_true, decide_false, ne_eq, not_true_eq_false, not_false_eq_true, weaks_items, hw2] <;> rfl) (fun hc3 => ?_) (fun hc3 => ?_)
          · cases hc3
          · have hc := hc3
            refine Run.skip ?_
            refine Run.seq ?_
            refine Run.region ?_
            refine RunO.ops (pre := [_]) (by simp only [go_sem, ↓reduceIte, Nat.reduceEqDiff, Nat.reduceLT, Nat.reduceLeDiff, Nat.reduceAdd, Int.natCast_nonneg, Int.ofNat_lt, List.length_map, decide_true, decide_false, ne_eq, not_true_eq_false, not_false_eq_true, weaks_items, hw2] <;> rfl) ?_
            refine RunO.callw (by simp only [go_sem, ↓reduceIte, Nat.reduceEqDiff, Nat.reduceLT, Nat.reduceLeDiff, Nat.reduceAdd, Int.natCast_nonneg, Int.ofNat_lt, List.length_map, decide_true, decide_false, ne_eq, not_true_eq_false, not_false_eq_true, weaks_items, hw2] <;> rfl) (by simp only [go_sem, ↓reduceIte, Nat.reduceEqDiff, Nat.reduceLT, Nat.reduceLeDiff, Nat.reduceAdd, Int.natCast_nonneg, Int.ofNat_lt, List.length_map, decide_true, decide_false, ne_eq, not_true_eq_false, not_false_eq_true, weaks_items, hw2] <;> rfl) (by simp only [go_sem, ↓reduceIte, Nat.reduceEqDiff, Nat.reduceLT, Nat.reduceLeDiff, Nat.reduceAdd, Int.natCast_nonneg, Int.ofNat_lt, List.length_map, decide_true, decide_false, ne_eq, not_true_eq_false, not_false_eq_true, weaks_items, hw2] <;> rfl) (by kernel_rfl) (((hold_Due A6 (by omega)).wf).mono ?_)
            rintro r8 s8 ⟨wf8, out, xs8, rfl, A8, m8, q1, q2, q3⟩
            have hin : ∀ a ∈ out, a.key ≠ k := fun a ha => by
              have h1 := (List.mem_filter.1 (p6.subset (List.mem_filter.1 (q1.subset ha)).1)).2
              simpa using h1
            have hol : out.length = xs6.length := by
              refine (due_all q1 fun a ha => ?_).length_eq
              exact hxs a (List.mem_filter.1 (p5.subset (List.mem_filter.1 (p6.subset ha)).1)).1
            have holg : (out.length : Int) = (i : Int) - goneF k xs := by omega
            refine RunO.all (by simp only [go_sem, ↓reduceIte, Nat.reduceEqDiff, Nat.reduceLT, Nat.reduceLeDiff, Nat.reduceAdd, Int.natCast_nonneg, Int.ofNat_lt, List.length_map, decide_true, decide_false, ne_eq, not_true_eq_false, not_false_eq_true, weaks_items, hw2] <;> rfl) ?_
            refine RunO.live' [8, 9, 10, 12] (by simp only [go_sem, ↓reduceIte, Nat.reduceEqDiff, Nat.reduceLT, Nat.reduceLeDiff, Nat.reduceAdd, Int.natCast_nonneg, Int.ofNat_lt, List.length_map, decide_true, decide_false, ne_eq, not_true_eq_false, not_false_eq_true, weaks_items, hw2] <;> rfl) ?_
            refine Run.seq ?_
            refine Run.seq ?_
            refine Run.region ?_
            refine RunO.all (by simp only [go_sem, ↓reduceIte, Nat.reduceEqDiff, Nat.reduceLT, Nat.reduceLeDiff, Nat.reduceAdd, Int.natCast_nonneg, Int.ofNat_lt, List.length_map, decide_true, decide_false, ne_eq, not_true_eq_false, not_false_eq_true, weaks_items, hw2] <;> rfl) ?_
            refine RunO.live' [8, 9, 10, 12, 79, 80, 81] (by simp only [go_sem, ↓reduceIte, Nat.reduceEqDiff, Nat.reduceLT, Nat.reduceLeDiff, Nat.reduceAdd, Int.natCast_nonneg, Int.ofNat_lt, List.length_map, decide_true, decide_false, ne_eq, not_true_eq_false, not_false_eq_true, weaks_items, hw2] <;> rfl) ?_
            refine Run.block ?_
            -- loop 1, live [8, 9, 10, 12, 79, 80, 81]
            refine Run.loop (fun e s' => ∃ (q : Nat), e = [(8, .int .i64 k), (9, .int .i64 (goneF k xs)), (10, .int .i64 i), (12, .sl .unk (out.map Item.pv)), (79, .sl .unk (out.map Item.pv)), (80, .int .i64 out.length), (81, .int .i64 q)] ∧ q ≤ out.length) (fun e s' => out.length - ivar e 81) ?_ ?_
            · exact ⟨0, rfl, by omega⟩
            rintro e s9 ⟨q, rfl, hq⟩
            refine Run.seq ?_
            refine Run.region ?_
            refine RunO.all (by simp only [go_sem, ↓reduceIte, Nat.reduceEqDiff, Nat.reduceLT, Nat.reduceLeDiff, Nat.reduceAdd, Int.natCast_nonneg, Int.ofNat_lt, List.length_map, decide_true, decide_false, ne_eq, not_true_eq_false, not_false_eq_true, weaks_items, hw2] <;> rfl) ?_
            refine RunO.live' [8, 9, 10, 12, 79, 80, 81, 82] (by simp only [go_sem, ↓reduceIte, Nat.reduceEqDiff, Nat.reduceLT, Nat.reduceLeDiff, Nat.reduceAdd, Int.natCast_nonneg, Int.ofNat_lt, List.length_map, decide_true, decide_false, ne_eq, not_true_eq_false, not_false_eq_true, weaks_items, hw2] <;> rfl) ?_
            refine Run.seq ?_
            refine Run.cond (by simp only [go_sem, ↓reduceIte, Nat.reduceEqDiff, Nat.reduceLT, Nat.reduceLeDiff, Nat.reduceAdd, Int.natCast_nonneg, Int.ofNat_lt, List.length_map, decide_true, decide_false, ne_eq, not_true_eq_false, not_false_eq_true, weaks_items, hw2] <;> rfl) (fun hc4 => ?_) (fun hc4 => ?_)
            · have hc := hc4
              refine Run.skip ?_
              refine Run.seq ?_
              refine Run.block ?_
              refine Run.seq ?_
              have hqo : q < out.length := by have := of_decide_eq_true hc4; omega
              have hxo : (out.map Item.pv)[q]? = some (.agg [.int .i64 (at0 out q).tick, .int .i64 (at0 out q).order, .int .i64 (at0 out q).key]) := map_at0 (by omega)
              have hwq : IntKind.i64.wrap ((q : Int) + 1) = ((q + 1 : Nat) : Int) := by rw [wrap_i64 (by have := gone_keep k xs; omega)]; omega
              refine Run.region ?_
              refine RunO.all (by simp only [go_sem, ↓reduceIte, Nat.reduceEqDiff, Nat.reduceLT, Nat.reduceLeDiff, Nat.reduceAdd, Int.natCast_nonneg, Int.ofNat_lt, List.length_map, decide_true, decide_false, ne_eq, not_true_eq_false, not_false_eq_true, weaks_items, hw2, hxo, hwq] <;> rfl) ?_
              refine RunO.live' [8, 9, 10, 12, 14, 79, 80, 81] (by simp only [go_sem, ↓reduceIte, Nat.reduceEqDiff, Nat.reduceLT, Nat.reduceLeDiff, Nat.reduceAdd, Int.natCast_nonneg, Int.ofNat_lt, List.length_map, decide_true, decide_false, ne_eq, not_true_eq_false, not_false_eq_true, weaks_items, hw2, hxo, hwq] <;> rfl) ?_
              refine Run.seq ?_
              refine Run.region ?_
              refine RunO.all (by simp only [go_sem, ↓reduceIte, Nat.reduceEqDiff, Nat.reduceLT, Nat.reduceLeDiff, Nat.reduceAdd, Int.natCast_nonneg, Int.ofNat_lt, List.length_map, decide_true, decide_false, ne_eq, not_true_eq_false, not_false_eq_true, weaks_items, hw2, hxo, hwq] <;> rfl) ?_
              refine RunO.live' [8, 9, 10, 12, 79, 80, 81, 88] (by simp only [go_sem, ↓reduceIte, Nat.reduceEqDiff, Nat.reduceLT, Nat.reduceLeDiff, Nat.reduceAdd, Int.natCast_nonneg, Int.ofNat_lt, List.length_map, decide_true, decide_false, ne_eq, not_true_eq_false, not_false_eq_true, weaks_items, hw2, hxo, hwq] <;> rfl) ?_
              refine Run.cond (by simp only [go_sem, ↓reduceIte, Nat.reduceEqDiff, Nat.reduceLT, Nat.reduceLeDiff, Nat.reduceAdd, Int.natCast_nonneg, Int.ofNat_lt, List.length_map, decide_true, decide_false, ne_eq, not_true_eq_false, not_false_eq_true, weaks_items, hw2, hxo, hwq] <;> rfl) (fun hc5 => ?_) (fun hc5 => ?_)
              · have hc := hc5
                refine Run.seq ?_
                exact absurd (of_decide_eq_true hc5) (hin _ (at0_mem hqo))
              · have hc := hc5
                refine Run.skip ?_
                refine Run.blk ?_
                refine Run.region ?_
                refine RunO.all (by simp only [go_sem, ↓reduceIte, Nat.reduceEqDiff, Nat.reduceLT, Nat.reduceLeDiff, Nat.reduceAdd, Int.natCast_nonneg, Int.ofNat_lt, List.length_map, decide_true, decide_false, ne_eq, not_true_eq_false, not_false_eq_true, weaks_items, hw2, hxo, hwq] <;> rfl) ?_
                refine RunO.live' [8, 9, 10, 12, 79, 80, 81] (by simp only [go_sem, ↓reduceIte, Nat.reduceEqDiff, Nat.reduceLT, Nat.reduceLeDiff, Nat.reduceAdd, Int.natCast_nonneg, Int.ofNat_lt, List.length_map, decide_true, decide_false, ne_eq, not_true_eq_false, not_false_eq_true, weaks_items, hw2, hxo, hwq] <;> rfl) ?_
                refine Run.lp ⟨⟨q + 1, rfl, by omega⟩, ?_⟩
                simp only [ivar, go_sem, ↓reduceIte, Nat.reduceEqDiff]
                omega
            · have hc := hc4
              refine Run.exit ?_
              show Run _ _ _ _ _ _
              refine Run.seq ?_
              refine Run.region ?_
              refine RunO.ops (pre := [_, _, _, _, _, _, _]) (by simp only [go_sem, ↓reduceIte, Nat.reduceEqDiff, Nat.reduceLT, Nat.reduceLeDiff, Nat.reduceAdd, Int.natCast_nonneg, Int.ofNat_lt, List.length_map, decide_true, decide_false, ne_eq, not_true_eq_false, not_false_eq_true, weaks_items, hw2] <;> rfl) ?_
              refine RunO.bcase 96 (by simp only [go_sem, ↓reduceIte, Nat.reduceEqDiff, Nat.reduceLT, Nat.reduceLeDiff, Nat.reduceAdd, Int.natCast_nonneg, Int.ofNat_lt, List.length_map, decide_true, decide_false, ne_eq, not_true_eq_false, not_false_eq_true, weaks_items, hw2] <;> rfl) (fun hg6 => ?_) (fun hg6 => ?_)
              · refine RunO.callw (by simp only [go_sem, ↓reduceIte, Nat.reduceEqDiff, Nat.reduceLT, Nat.reduceLeDiff, Nat.reduceAdd, Int.natCast_nonneg, Int.ofNat_lt, List.length_map, decide_true, decide_false, ne_eq, not_true_eq_false, not_false_eq_true, weaks_items, hw2] <;> rfl) (by simp only [go_sem, ↓reduceIte, Nat.reduceEqDiff, Nat.reduceLT, Nat.reduceLeDiff, Nat.reduceAdd, Int.natCast_nonneg, Int.ofNat_lt, List.length_map, decide_true, decide_false, ne_eq, not_true_eq_false, not_false_eq_true, weaks_items, hw2] <;> rfl) (by simp only [go_sem, ↓reduceIte, Nat.reduceEqDiff, Nat.reduceLT, Nat.reduceLeDiff, Nat.reduceAdd, Int.natCast_nonneg, Int.ofNat_lt, List.length_map, decide_true, decide_false, ne_eq, not_true_eq_false, not_false_eq_true, weaks_items, hw2] <;> rfl) (by kernel_rfl) ((known_).mono ?_)
                rintro r13 s13 ⟨rfl, _, _⟩
                refine RunO.all (by simp only [go_sem, ↓reduceIte, Nat.reduceEqDiff, Nat.reduceLT, Nat.reduceLeDiff, Nat.reduceAdd, Int.natCast_nonneg, Int.ofNat_lt, List.length_map, decide_true, decide_false, ne_eq, not_true_eq_false, not_false_eq_true, weaks_items, hw2] <;> rfl) ?_
                refine RunO.live' [6] (by simp only [go_sem, ↓reduceIte, Nat.reduceEqDiff, Nat.reduceLT, Nat.reduceLeDiff, Nat.reduceAdd, Int.natCast_nonneg, Int.ofNat_lt, List.length_map, decide_true, decide_false, ne_eq, not_true_eq_false, not_false_eq_true, weaks_items, hw2] <;> rfl) ?_
                refine Run.ret ?_
                exact Ret.all (by simp only [Try.f6, go_sem] <;> rfl) rfl
              · exact absurd holg (of_decide_eq_false hg6)

end Go.Proofs
