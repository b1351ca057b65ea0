import Derived.Test.YtegdcamfhldcoaaH8
namespace Go.Proofs
open Go.PM
set_option maxHeartbeats 1000000
set_option linter.unusedSimpArgs false
set_option linter.unusedVariables false

def allIt (ticks : List Int) (n : Nat) : List Item := (List.range n).map fun j => ⟨tk ticks j, j, j⟩

theorem allIt_succ (ticks : List Int) (n : Nat) : allIt ticks (n + 1) = allIt ticks n ++ [⟨tk ticks n, n, n⟩] := by
  unfold allIt
  rw [List.range_succ, List.map_append]
  rfl
theorem allIt_len (ticks : List Int) (n : Nat) : (allIt ticks n).length = n := by simp [allIt]
theorem allIt_mem {ticks : List Int} {n : Nat} {x : Item} (h : x ∈ allIt ticks n) : ∃ j : Nat, j < n ∧ x = ⟨tk ticks j, j, j⟩ := by
  unfold allIt at h
  obtain ⟨j, hj, rfl⟩ := List.mem_map.1 h
  exact ⟨j, List.mem_range.1 hj, rfl⟩
theorem allIt_nodup (ticks : List Int) (n : Nat) : ((allIt ticks n).map Item.order).Nodup := by
  unfold allIt
  rw [List.map_map]
  refine List.Pairwise.map _ (S := (· ≠ ·)) (fun a b h => ?_) (List.nodup_range (n := n))
  intro e
  exact h (Int.ofNat.inj e)

theorem at0_nodup {l : List Item} (h : (l.map Item.order).Nodup) {i j : Nat} (hi : i < j) (hj : j < l.length) : (at0 l i).order ≠ (at0 l j).order := by
  have h2 := List.pairwise_iff_getElem.1 h i j (by simp; omega) (by simpa using hj) hi
  unfold at0
  rw [List.getElem?_eq_getElem (by omega : i < l.length), List.getElem?_eq_getElem hj]
  simpa using h2

theorem at0_sorted {l : List Item} (h : l.Pairwise (fun a b => b.lt a = false)) {i j : Nat} (hi : i < j) (hj : j < l.length) : (at0 l j).lt (at0 l i) = false := by
  have h2 := List.pairwise_iff_getElem.1 h i j (by omega) hj hi
  unfold at0
  rw [List.getElem?_eq_getElem (by omega : i < l.length), List.getElem?_eq_getElem hj]
  exact h2

theorem lt_of_ne {a b : Item} (h : b.lt a = false) (ho : a.order ≠ b.order) : a.lt b = true := by
  simp only [Item.lt, Bool.or_eq_false_iff, Bool.and_eq_false_iff, Bool.or_eq_true, Bool.and_eq_true, decide_eq_false_iff_not, decide_eq_true_eq] at *
  omega

def seenP (l : List Item) : List (PV × PV) := l.map fun x => (PV.int .i64 x.key, PV.int .i64 1)
theorem mfind_seen {n : Int} : ∀ {l : List Item} {i : Nat}, (∀ x ∈ l, x.key ≠ n) → mfind .i64 n (seenP l) i = some none
  | [], i, _ => rfl
  | x :: l, i, h => by
    unfold seenP
    simp only [List.map_cons, mfind, if_true]
    rw [if_neg (Ne.symm (h x (by simp)))]
    exact mfind_seen fun y hy => h y (by simp [hy])

theorem holdAll_ {ticks : List Int} (hfit : ∀ t ∈ ticks, t ≤ 9223372036854775807) {s : St} : ACalls Try.prog 5 [.sl .unk (ticks.map (PV.int .i64))] s (fun r s' => r = .bool true) := by
  refine ACalls.body Try.func5 rfl (by simp [Try.f5]) (by decide) fun hwf => ?_
  show Run _ _ [.code _] _ _ _
  refine Run.seq ?_
  refine Run.region ?_
  refine RunO.all (by simp only [go_sem, ↓reduceIte, Nat.reduceEqDiff, Nat.reduceLT, Nat.reduceLeDiff, Nat.reduceAdd, Int.natCast_nonneg, Int.ofNat_lt, List.length_map, decide_true, decide_false, ne_eq, not_true_eq_false, not_false_eq_true, weaks_items, Int.lt_irrefl] <;> rfl) ?_
  refine RunO.live' [0] (by simp only [go_sem, ↓reduceIte, Nat.reduceEqDiff, Nat.reduceLT, Nat.reduceLeDiff, Nat.reduceAdd, Int.natCast_nonneg, Int.ofNat_lt, List.length_map, decide_true, decide_false, ne_eq, not_true_eq_false, not_false_eq_true, weaks_items, Int.lt_irrefl] <;> rfl) ?_
  refine Run.seq ?_
  refine Run.region ?_
  refine RunO.callw (by simp only [go_sem, ↓reduceIte, Nat.reduceEqDiff, Nat.reduceLT, Nat.reduceLeDiff, Nat.reduceAdd, Int.natCast_nonneg, Int.ofNat_lt, List.length_map, decide_true, decide_false, ne_eq, not_true_eq_false, not_false_eq_true, weaks_items, Int.lt_irrefl] <;> rfl) (by simp only [go_sem, ↓reduceIte, Nat.reduceEqDiff, Nat.reduceLT, Nat.reduceLeDiff, Nat.reduceAdd, Int.natCast_nonneg, Int.ofNat_lt, List.length_map, decide_true, decide_false, ne_eq, not_true_eq_false, not_false_eq_true, weaks_items, Int.lt_irrefl] <;> rfl) (by simp only [go_sem, ↓reduceIte, Nat.reduceEqDiff, Nat.reduceLT, Nat.reduceLeDiff, Nat.reduceAdd, Int.natCast_nonneg, Int.ofNat_lt, List.length_map, decide_true, decide_false, ne_eq, not_true_eq_false, not_false_eq_true, weaks_items, Int.lt_irrefl] <;> rfl) (by kernel_rfl) ((hold_New.wf).mono ?_)
  rintro r1 s1 ⟨wf1, rfl, A1, nA, frA⟩
  refine RunO.all (by simp only [go_sem, ↓reduceIte, Nat.reduceEqDiff, Nat.reduceLT, Nat.reduceLeDiff, Nat.reduceAdd, Int.natCast_nonneg, Int.ofNat_lt, List.length_map, decide_true, decide_false, ne_eq, not_true_eq_false, not_false_eq_true, weaks_items, Int.lt_irrefl] <;> rfl) ?_
  refine RunO.live' [0, 3] (by simp only [go_sem, ↓reduceIte, Nat.reduceEqDiff, Nat.reduceLT, Nat.reduceLeDiff, Nat.reduceAdd, Int.natCast_nonneg, Int.ofNat_lt, List.length_map, decide_true, decide_false, ne_eq, not_true_eq_false, not_false_eq_true, weaks_items, Int.lt_irrefl] <;> rfl) ?_
  refine Run.seq ?_
  refine Run.seq ?_
  refine Run.region ?_
  refine RunO.all (by simp only [go_sem, ↓reduceIte, Nat.reduceEqDiff, Nat.reduceLT, Nat.reduceLeDiff, Nat.reduceAdd, Int.natCast_nonneg, Int.ofNat_lt, List.length_map, decide_true, decide_false, ne_eq, not_true_eq_false, not_false_eq_true, weaks_items, Int.lt_irrefl] <;> rfl) ?_
  refine RunO.live' [0, 3, 12] (by simp only [go_sem, ↓reduceIte, Nat.reduceEqDiff, Nat.reduceLT, Nat.reduceLeDiff, Nat.reduceAdd, Int.natCast_nonneg, Int.ofNat_lt, List.length_map, decide_true, decide_false, ne_eq, not_true_eq_false, not_false_eq_true, weaks_items, Int.lt_irrefl] <;> rfl) ?_
  refine Run.cond (by simp only [go_sem, ↓reduceIte, Nat.reduceEqDiff, Nat.reduceLT, Nat.reduceLeDiff, Nat.reduceAdd, Int.natCast_nonneg, Int.ofNat_lt, List.length_map, decide_true, decide_false, ne_eq, not_true_eq_false, not_false_eq_true, weaks_items, Int.lt_irrefl] <;> rfl) (fun hc0 => ?_) (fun hc0 => ?_)
  · cases hc0
  · have hc := hc0
    refine Run.skip ?_
    refine Run.seq ?_
    refine Run.region ?_
    refine RunO.all (by simp only [go_sem, ↓reduceIte, Nat.reduceEqDiff, Nat.reduceLT, Nat.reduceLeDiff, Nat.reduceAdd, Int.natCast_nonneg, Int.ofNat_lt, List.length_map, decide_true, decide_false, ne_eq, not_true_eq_false, not_false_eq_true, weaks_items, Int.lt_irrefl] <;> rfl) ?_
    refine RunO.live' [0, 3, 4] (by simp only [go_sem, ↓reduceIte, Nat.reduceEqDiff, Nat.reduceLT, Nat.reduceLeDiff, Nat.reduceAdd, Int.natCast_nonneg, Int.ofNat_lt, List.length_map, decide_true, decide_false, ne_eq, not_true_eq_false, not_false_eq_true, weaks_items, Int.lt_irrefl] <;> rfl) ?_
    refine Run.seq ?_
    refine Run.seq ?_
    have hnn : ∃ n : Nat, n ≤ ticks.length ∧ n ≤ 60 ∧ (if (60 : Int) < (ticks.length : Int) then (60 : Int) else (ticks.length : Int)) = (n : Int) := by
      by_cases h : (60 : Int) < (ticks.length : Int)
      · exact ⟨60, by omega, by omega, by rw [if_pos h]; rfl⟩
      · exact ⟨ticks.length, by omega, by omega, by rw [if_neg h]⟩
    obtain ⟨n, hn1, hn2, hne⟩ := hnn
    rw [hne]
    refine Run.region ?_
    refine RunO.all (by simp only [go_sem, ↓reduceIte, Nat.reduceEqDiff, Nat.reduceLT, Nat.reduceLeDiff, Nat.reduceAdd, Int.natCast_nonneg, Int.ofNat_lt, List.length_map, decide_true, decide_false, ne_eq, not_true_eq_false, not_false_eq_true, weaks_items, Int.lt_irrefl] <;> rfl) ?_
    refine RunO.live' [0, 3, 4, 5] (by simp only [go_sem, ↓reduceIte, Nat.reduceEqDiff, Nat.reduceLT, Nat.reduceLeDiff, Nat.reduceAdd, Int.natCast_nonneg, Int.ofNat_lt, List.length_map, decide_true, decide_false, ne_eq, not_true_eq_false, not_false_eq_true, weaks_items, Int.lt_irrefl] <;> rfl) ?_
    refine Run.block ?_
    -- loop 0, live [0, 3, 4, 5]
    refine Run.loop (fun e s' => ∃ (i : Nat) (xs : List Item) (L : Option Nat), e = [(0, .sl .unk (ticks.map (PV.int .i64))), (3, .ptr s.nxt 0 0), (4, .int .i64 n), (5, .int .i64 i)] ∧ s'.wf ∧ HoldAt s' s.nxt xs i L ∧ xs.length = i ∧ i ≤ n ∧ xs.Perm (allIt ticks i)) (fun e s' => n - ivar e 5) ?_ ?_
    · exact ⟨0, [], none, rfl, wf1, A1, rfl, by omega, .refl _⟩
    rintro e s3 ⟨i, xs, L, rfl, wf3, A3, hxl, hi, px⟩
    refine Run.seq ?_
    refine Run.seq ?_
    refine Run.region ?_
    refine RunO.all (by simp only [go_sem, ↓reduceIte, Nat.reduceEqDiff, Nat.reduceLT, Nat.reduceLeDiff, Nat.reduceAdd, Int.natCast_nonneg, Int.ofNat_lt, List.length_map, decide_true, decide_false, ne_eq, not_true_eq_false, not_false_eq_true, weaks_items, Int.lt_irrefl] <;> rfl) ?_
    refine RunO.live' [0, 3, 4, 5, 18] (by simp only [go_sem, ↓reduceIte, Nat.reduceEqDiff, Nat.reduceLT, Nat.reduceLeDiff, Nat.reduceAdd, Int.natCast_nonneg, Int.ofNat_lt, List.length_map, decide_true, decide_false, ne_eq, not_true_eq_false, not_false_eq_true, weaks_items, Int.lt_irrefl] <;> rfl) ?_
    refine Run.cond (by simp only [go_sem, ↓reduceIte, Nat.reduceEqDiff, Nat.reduceLT, Nat.reduceLeDiff, Nat.reduceAdd, Int.natCast_nonneg, Int.ofNat_lt, List.length_map, decide_true, decide_false, ne_eq, not_true_eq_false, not_false_eq_true, weaks_items, Int.lt_irrefl] <;> rfl) (fun hc1 => ?_) (fun hc1 => ?_)
    · have hc := hc1
      refine Run.skip ?_
      refine Run.seq ?_
      refine Run.block ?_
      refine Run.seq ?_
      have hi60 : i < n := by have := of_decide_eq_true hc1; omega
      have hx := map_tk (l := ticks) (i := i) (by omega)
      have hw : IntKind.i64.wrap ((i : Int) + 1) = ((i + 1 : Nat) : Int) := by rw [wrap_i64 (by omega)]; omega
      refine Run.region ?_
      refine RunO.ops (pre := [_, _, _, _, _, _]) (by simp only [go_sem, ↓reduceIte, Nat.reduceEqDiff, Nat.reduceLT, Nat.reduceLeDiff, Nat.reduceAdd, Int.natCast_nonneg, Int.ofNat_lt, List.length_map, decide_true, decide_false, ne_eq, not_true_eq_false, not_false_eq_true, weaks_items, Int.lt_irrefl, hx, hw] <;> rfl) ?_
      refine RunO.callw (by simp only [go_sem, ↓reduceIte, Nat.reduceEqDiff, Nat.reduceLT, Nat.reduceLeDiff, Nat.reduceAdd, Int.natCast_nonneg, Int.ofNat_lt, List.length_map, decide_true, decide_false, ne_eq, not_true_eq_false, not_false_eq_true, weaks_items, Int.lt_irrefl, hx, hw] <;> rfl) (by simp only [go_sem, ↓reduceIte, Nat.reduceEqDiff, Nat.reduceLT, Nat.reduceLeDiff, Nat.reduceAdd, Int.natCast_nonneg, Int.ofNat_lt, List.length_map, decide_true, decide_false, ne_eq, not_true_eq_false, not_false_eq_true, weaks_items, Int.lt_irrefl, hx, hw] <;> rfl) (by simp only [go_sem, ↓reduceIte, Nat.reduceEqDiff, Nat.reduceLT, Nat.reduceLeDiff, Nat.reduceAdd, Int.natCast_nonneg, Int.ofNat_lt, List.length_map, decide_true, decide_false, ne_eq, not_true_eq_false, not_false_eq_true, weaks_items, Int.lt_irrefl, hx, hw] <;> rfl) (by kernel_rfl) (((hold_Put (A3.lt wf3) A3 (by omega) (by omega)).wf).mono ?_)
      rintro r4 s4 ⟨wf4, rfl, xs', L', A4, pA, mA⟩
      refine RunO.all (by simp only [go_sem, ↓reduceIte, Nat.reduceEqDiff, Nat.reduceLT, Nat.reduceLeDiff, Nat.reduceAdd, Int.natCast_nonneg, Int.ofNat_lt, List.length_map, decide_true, decide_false, ne_eq, not_true_eq_false, not_false_eq_true, weaks_items, Int.lt_irrefl, hx, hw] <;> rfl) ?_
      refine RunO.live' [0, 3, 4, 5, 29] (by simp only [go_sem, ↓reduceIte, Nat.reduceEqDiff, Nat.reduceLT, Nat.reduceLeDiff, Nat.reduceAdd, Int.natCast_nonneg, Int.ofNat_lt, List.length_map, decide_true, decide_false, ne_eq, not_true_eq_false, not_false_eq_true, weaks_items, Int.lt_irrefl, hx, hw] <;> rfl) ?_
      refine Run.cond (by simp only [go_sem, ↓reduceIte, Nat.reduceEqDiff, Nat.reduceLT, Nat.reduceLeDiff, Nat.reduceAdd, Int.natCast_nonneg, Int.ofNat_lt, List.length_map, decide_true, decide_false, ne_eq, not_true_eq_false, not_false_eq_true, weaks_items, Int.lt_irrefl, hx, hw] <;> rfl) (fun hc2 => ?_) (fun hc2 => ?_)
      · cases hc2
      · have hc := hc2
        refine Run.skip ?_
        refine Run.blk ?_
        refine Run.region ?_
        refine RunO.all (by simp only [go_sem, ↓reduceIte, Nat.reduceEqDiff, Nat.reduceLT, Nat.reduceLeDiff, Nat.reduceAdd, Int.natCast_nonneg, Int.ofNat_lt, List.length_map, decide_true, decide_false, ne_eq, not_true_eq_false, not_false_eq_true, weaks_items, Int.lt_irrefl, hx, hw] <;> rfl) ?_
        refine RunO.live' [0, 3, 4, 5] (by simp only [go_sem, ↓reduceIte, Nat.reduceEqDiff, Nat.reduceLT, Nat.reduceLeDiff, Nat.reduceAdd, Int.natCast_nonneg, Int.ofNat_lt, List.length_map, decide_true, decide_false, ne_eq, not_true_eq_false, not_false_eq_true, weaks_items, Int.lt_irrefl, hx, hw] <;> rfl) ?_
        refine Run.lp ⟨⟨i + 1, xs', L', rfl, wf4, A4, ?_, by omega, ?_⟩, ?_⟩
        · have := pA.length_eq
          simp at this
          omega
        · rw [allIt_succ]
          exact pA.trans (px.append_right _)
        · simp only [ivar, go_sem, ↓reduceIte, Nat.reduceEqDiff]
          omega
    · have hc := hc1
      refine Run.exit ?_
      show Run _ _ _ _ _ _
      refine Run.seq ?_
      refine Run.region ?_
      refine RunO.ops (pre := [_]) (by simp only [go_sem, ↓reduceIte, Nat.reduceEqDiff, Nat.reduceLT, Nat.reduceLeDiff, Nat.reduceAdd, Int.natCast_nonneg, Int.ofNat_lt, List.length_map, decide_true, decide_false, ne_eq, not_true_eq_false, not_false_eq_true, weaks_items, Int.lt_irrefl] <;> rfl) ?_
      refine RunO.callw (by simp only [go_sem, ↓reduceIte, Nat.reduceEqDiff, Nat.reduceLT, Nat.reduceLeDiff, Nat.reduceAdd, Int.natCast_nonneg, Int.ofNat_lt, List.length_map, decide_true, decide_false, ne_eq, not_true_eq_false, not_false_eq_true, weaks_items, Int.lt_irrefl] <;> rfl) (by simp only [go_sem, ↓reduceIte, Nat.reduceEqDiff, Nat.reduceLT, Nat.reduceLeDiff, Nat.reduceAdd, Int.natCast_nonneg, Int.ofNat_lt, List.length_map, decide_true, decide_false, ne_eq, not_true_eq_false, not_false_eq_true, weaks_items, Int.lt_irrefl] <;> rfl) (by simp only [go_sem, ↓reduceIte, Nat.reduceEqDiff, Nat.reduceLT, Nat.reduceLeDiff, Nat.reduceAdd, Int.natCast_nonneg, Int.ofNat_lt, List.length_map, decide_true, decide_false, ne_eq, not_true_eq_false, not_false_eq_true, weaks_items, Int.lt_irrefl] <;> rfl) (by kernel_rfl) (((hold_Due A3 (by omega)).wf).mono ?_)
      rintro r5 s5 ⟨wf5, out, xs5, rfl, A5, m5, q1, q2, q3⟩
      obtain rfl : i = n := by have := of_decide_eq_false hc1; omega
      have hmax : ∀ a ∈ xs, a.tick ≤ 9223372036854775807 := fun a ha => by
        obtain ⟨j, hj, rfl⟩ := allIt_mem (px.subset ha)
        exact tk_le hfit (by omega)
      have hout : out.Perm (allIt ticks i) := (due_all q1 hmax).trans px
      have hol : out.length = i := by rw [hout.length_eq, allIt_len]
      have hnd : (out.map Item.order).Nodup := ((hout.map Item.order).nodup_iff).2 (allIt_nodup ticks i)
      obtain rfl : xs5 = [] := by
        have : xs.filter (fun a => decide ((9223372036854775807 : Int) < a.tick)) = [] := List.filter_eq_nil_iff.2 fun a ha => by have := hmax a ha; simp; omega
        rw [this] at q2
        exact List.perm_nil.1 q2
      refine RunO.all (by simp only [go_sem, ↓reduceIte, Nat.reduceEqDiff, Nat.reduceLT, Nat.reduceLeDiff, Nat.reduceAdd, Int.natCast_nonneg, Int.ofNat_lt, List.length_map, decide_true, decide_false, ne_eq, not_true_eq_false, not_false_eq_true, weaks_items, Int.lt_irrefl, hol] <;> rfl) ?_
      refine RunO.live' [0, 3, 4, 6] (by simp only [go_sem, ↓reduceIte, Nat.reduceEqDiff, Nat.reduceLT, Nat.reduceLeDiff, Nat.reduceAdd, Int.natCast_nonneg, Int.ofNat_lt, List.length_map, decide_true, decide_false, ne_eq, not_true_eq_false, not_false_eq_true, weaks_items, Int.lt_irrefl, hol] <;> rfl) ?_
      refine Run.seq ?_
      refine Run.seq ?_
      refine Run.region ?_
      refine RunO.ops (pre := [_, _, _, _, _]) (by simp only [go_sem, ↓reduceIte, Nat.reduceEqDiff, Nat.reduceLT, Nat.reduceLeDiff, Nat.reduceAdd, Int.natCast_nonneg, Int.ofNat_lt, List.length_map, decide_true, decide_false, ne_eq, not_true_eq_false, not_false_eq_true, weaks_items, Int.lt_irrefl, hol] <;> rfl) ?_
      refine RunO.bcase 36 (by simp only [go_sem, ↓reduceIte, Nat.reduceEqDiff, Nat.reduceLT, Nat.reduceLeDiff, Nat.reduceAdd, Int.natCast_nonneg, Int.ofNat_lt, List.length_map, decide_true, decide_false, ne_eq, not_true_eq_false, not_false_eq_true, weaks_items, Int.lt_irrefl, hol] <;> rfl) (fun hg4 => ?_) (fun hg4 => ?_)
      · cases hg4
      · refine RunO.gdo (by simp only [go_sem, ↓reduceIte, Nat.reduceEqDiff, Nat.reduceLT, Nat.reduceLeDiff, Nat.reduceAdd, Int.natCast_nonneg, Int.ofNat_lt, List.length_map, decide_true, decide_false, ne_eq, not_true_eq_false, not_false_eq_true, weaks_items, Int.lt_irrefl, hol] <;> rfl) (by simp only [go_sem, ↓reduceIte, Nat.reduceEqDiff, Nat.reduceLT, Nat.reduceLeDiff, Nat.reduceAdd, Int.natCast_nonneg, Int.ofNat_lt, List.length_map, decide_true, decide_false, ne_eq, not_true_eq_false, not_false_eq_true, weaks_items, Int.lt_irrefl, hol] <;> rfl) ?_
        refine RunO.callw (by simp only [go_sem, ↓reduceIte, Nat.reduceEqDiff, Nat.reduceLT, Nat.reduceLeDiff, Nat.reduceAdd, Int.natCast_nonneg, Int.ofNat_lt, List.length_map, decide_true, decide_false, ne_eq, not_true_eq_false, not_false_eq_true, weaks_items, Int.lt_irrefl, hol] <;> rfl) (by simp only [go_sem, ↓reduceIte, Nat.reduceEqDiff, Nat.reduceLT, Nat.reduceLeDiff, Nat.reduceAdd, Int.natCast_nonneg, Int.ofNat_lt, List.length_map, decide_true, decide_false, ne_eq, not_true_eq_false, not_false_eq_true, weaks_items, Int.lt_irrefl, hol] <;> rfl) (by simp only [go_sem, ↓reduceIte, Nat.reduceEqDiff, Nat.reduceLT, Nat.reduceLeDiff, Nat.reduceAdd, Int.natCast_nonneg, Int.ofNat_lt, List.length_map, decide_true, decide_false, ne_eq, not_true_eq_false, not_false_eq_true, weaks_items, Int.lt_irrefl, hol] <;> rfl) (by kernel_rfl) ((hold_Len A5).mono ?_)
        rintro r7 s7 ⟨hr7, hs⟩
        subst s7
        obtain rfl : r7 = .int .i64 0 := hr7
        refine RunO.gdo (by simp only [go_sem, ↓reduceIte, Nat.reduceEqDiff, Nat.reduceLT, Nat.reduceLeDiff, Nat.reduceAdd, Int.natCast_nonneg, Int.ofNat_lt, List.length_map, decide_true, decide_false, ne_eq, not_true_eq_false, not_false_eq_true, weaks_items, Int.lt_irrefl, hol] <;> rfl) (by simp only [go_sem, ↓reduceIte, Nat.reduceEqDiff, Nat.reduceLT, Nat.reduceLeDiff, Nat.reduceAdd, Int.natCast_nonneg, Int.ofNat_lt, List.length_map, decide_true, decide_false, ne_eq, not_true_eq_false, not_false_eq_true, weaks_items, Int.lt_irrefl, hol] <;> rfl) ?_
        refine RunO.all (by simp only [go_sem, ↓reduceIte, Nat.reduceEqDiff, Nat.reduceLT, Nat.reduceLeDiff, Nat.reduceAdd, Int.natCast_nonneg, Int.ofNat_lt, List.length_map, decide_true, decide_false, ne_eq, not_true_eq_false, not_false_eq_true, weaks_items, Int.lt_irrefl, hol] <;> rfl) ?_
        refine RunO.live' [0, 4, 6, 40] (by simp only [go_sem, ↓reduceIte, Nat.reduceEqDiff, Nat.reduceLT, Nat.reduceLeDiff, Nat.reduceAdd, Int.natCast_nonneg, Int.ofNat_lt, List.length_map, decide_true, decide_false, ne_eq, not_true_eq_false, not_false_eq_true, weaks_items, Int.lt_irrefl, hol] <;> rfl) ?_
        refine Run.cond (by simp only [go_sem, ↓reduceIte, Nat.reduceEqDiff, Nat.reduceLT, Nat.reduceLeDiff, Nat.reduceAdd, Int.natCast_nonneg, Int.ofNat_lt, List.length_map, decide_true, decide_false, ne_eq, not_true_eq_false, not_false_eq_true, weaks_items, Int.lt_irrefl, hol] <;> rfl) (fun hc3 => ?_) (fun hc3 => ?_)
        · cases hc3
        · have hc := hc3
          refine Run.skip ?_
          refine Run.seq ?_
          refine Run.region ?_
          refine RunO.all (by simp only [go_sem, ↓reduceIte, Nat.reduceEqDiff, Nat.reduceLT, Nat.reduceLeDiff, Nat.reduceAdd, Int.natCast_nonneg, Int.ofNat_lt, List.length_map, decide_true, decide_false, ne_eq, not_true_eq_false, not_false_eq_true, weaks_items, Int.lt_irrefl, hol] <;> rfl) ?_
          refine RunO.live' [0, 4, 6, 7] (by simp only [go_sem, ↓reduceIte, Nat.reduceEqDiff, Nat.reduceLT, Nat.reduceLeDiff, Nat.reduceAdd, Int.natCast_nonneg, Int.ofNat_lt, List.length_map, decide_true, decide_false, ne_eq, not_true_eq_false, not_false_eq_true, weaks_items, Int.lt_irrefl, hol] <;> rfl) ?_
          refine Run.seq ?_
          refine Run.seq ?_
          refine Run.region ?_
          refine RunO.all (by simp only [go_sem, ↓reduceIte, Nat.reduceEqDiff, Nat.reduceLT, Nat.reduceLeDiff, Nat.reduceAdd, Int.natCast_nonneg, Int.ofNat_lt, List.length_map, decide_true, decide_false, ne_eq, not_true_eq_false, not_false_eq_true, weaks_items, Int.lt_irrefl, hol] <;> rfl) ?_
          refine RunO.live' [0, 4, 6, 7, 42, 43, 44] (by simp only [go_sem, ↓reduceIte, Nat.reduceEqDiff, Nat.reduceLT, Nat.reduceLeDiff, Nat.reduceAdd, Int.natCast_nonneg, Int.ofNat_lt, List.length_map, decide_true, decide_false, ne_eq, not_true_eq_false, not_false_eq_true, weaks_items, Int.lt_irrefl, hol] <;> rfl) ?_
          refine Run.block ?_
          -- loop 1, live [0, 4, 6, 7, 42, 43, 44]
          refine Run.loop (fun e s' => ∃ (q : Nat) (m : Nat), e = [(0, .sl .unk (ticks.map (PV.int .i64))), (4, .int .i64 i), (6, .sl .unk (out.map Item.pv)), (7, .map m), (42, .sl .unk (out.map Item.pv)), (43, .int .i64 i), (44, .int .i64 q)] ∧ q ≤ out.length ∧ m < s'.nxt ∧ s'.blk m = some (.map (seenP (out.take q)))) (fun e s' => out.length - ivar e 44) ?_ ?_
          · exact ⟨0, s5.nxt, rfl, by omega, by rw [nxt_new]; omega, by simp [seenP, blk_new]⟩
          rintro e s9 ⟨q, m, rfl, hq, hml, hmb⟩
          refine Run.seq ?_
          refine Run.region ?_
          refine RunO.all (by simp only [go_sem, ↓reduceIte, Nat.reduceEqDiff, Nat.reduceLT, Nat.reduceLeDiff, Nat.reduceAdd, Int.natCast_nonneg, Int.ofNat_lt, List.length_map, decide_true, decide_false, ne_eq, not_true_eq_false, not_false_eq_true, weaks_items, Int.lt_irrefl, hol] <;> rfl) ?_
          refine RunO.live' [0, 4, 6, 7, 42, 43, 44, 45] (by simp only [go_sem, ↓reduceIte, Nat.reduceEqDiff, Nat.reduceLT, Nat.reduceLeDiff, Nat.reduceAdd, Int.natCast_nonneg, Int.ofNat_lt, List.length_map, decide_true, decide_false, ne_eq, not_true_eq_false, not_false_eq_true, weaks_items, Int.lt_irrefl, hol] <;> rfl) ?_
          refine Run.seq ?_
          refine Run.cond (by simp only [go_sem, ↓reduceIte, Nat.reduceEqDiff, Nat.reduceLT, Nat.reduceLeDiff, Nat.reduceAdd, Int.natCast_nonneg, Int.ofNat_lt, List.length_map, decide_true, decide_false, ne_eq, not_true_eq_false, not_false_eq_true, weaks_items, Int.lt_irrefl, hol] <;> rfl) (fun hc4 => ?_) (fun hc4 => ?_)
          · have hc := hc4
            refine Run.skip ?_
            refine Run.seq ?_
            refine Run.block ?_
            refine Run.seq ?_
            have hqo : q < out.length := by have := of_decide_eq_true hc4; omega
            obtain ⟨j, hj, hxe⟩ := allIt_mem (hout.subset (at0_mem hqo))
            have hxo : (out.map Item.pv)[q]? = some (.agg [.int .i64 (tk ticks j), .int .i64 j, .int .i64 j]) := by rw [map_at0 hqo, hxe]; rfl
            have hwq : IntKind.i64.wrap ((q : Int) + 1) = ((q + 1 : Nat) : Int) := by rw [wrap_i64 (by omega)]; omega
            have hyj : (ticks.map (PV.int .i64))[j]? = some (.int .i64 (tk ticks j)) := map_tk (by omega)
            have hj0 : ((j : Int) < 0) = False := eq_false (by omega)
            have hjn : ((i : Int) ≤ (j : Int)) = False := eq_false (by omega)
            have hm0 : (m = s9.nxt) = False := eq_false (by omega)
            have hqi : ((q : Int) < (i : Int)) = True := eq_true (by omega)
            have hjt : j < ticks.length := by omega
            have hmf : mfind .i64 j (seenP (out.take q)) 0 = some none := mfind_seen fun x hx => by
              obtain ⟨k, hk, rfl⟩ := mem_take_at0 hx
              have h1 := at0_nodup hnd hk hqo
              obtain ⟨j2, _, e2⟩ := allIt_mem (hout.subset (at0_mem (l := out) (i := k) (by omega)))
              rw [hxe, e2] at h1
              rw [e2]
              exact h1
            refine Run.region ?_
            refine RunO.all (by simp only [go_sem, ↓reduceIte, Nat.reduceEqDiff, Nat.reduceLT, Nat.reduceLeDiff, Nat.reduceAdd, Int.natCast_nonneg, Int.ofNat_lt, List.length_map, decide_true, decide_false, ne_eq, not_true_eq_false, not_false_eq_true, weaks_items, Int.lt_irrefl, hol, hxo, hwq, hyj, hj0, hjn, hm0, hmb, hmf, hqi, hqo, hjt] <;> rfl) ?_
            refine RunO.live' [0, 4, 6, 7, 8, 9, 42, 43, 44] (by simp only [go_sem, ↓reduceIte, Nat.reduceEqDiff, Nat.reduceLT, Nat.reduceLeDiff, Nat.reduceAdd, Int.natCast_nonneg, Int.ofNat_lt, List.length_map, decide_true, decide_false, ne_eq, not_true_eq_false, not_false_eq_true, weaks_items, Int.lt_irrefl, hol, hxo, hwq, hyj, hj0, hjn, hm0, hmb, hmf, hqi, hqo, hjt] <;> rfl) ?_
            refine Run.seq ?_
            refine Run.seq ?_
            refine Run.drawC [] [0, 4, 6, 7, 9, 42, 43, 44, 95] Try.mixed (by kernel_rfl) ?_
            refine DetC.pre (pre := [_, _, _, _]) (by simp only [go_sem, ↓reduceIte, Nat.reduceEqDiff, Nat.reduceLT, Nat.reduceLeDiff, Nat.reduceAdd, Int.natCast_nonneg, Int.ofNat_lt, List.length_map, decide_true, decide_false, ne_eq, not_true_eq_false, not_false_eq_true, weaks_items, Int.lt_irrefl, hol, hxo, hwq, hyj, hj0, hjn, hm0, hmb, hmf, hqi, hqo, hjt] <;> rfl) ?_
            refine DetC.gdo (by simp only [go_sem, ↓reduceIte, Nat.reduceEqDiff, Nat.reduceLT, Nat.reduceLeDiff, Nat.reduceAdd, Int.natCast_nonneg, Int.ofNat_lt, List.length_map, decide_true, decide_false, ne_eq, not_true_eq_false, not_false_eq_true, weaks_items, Int.lt_irrefl, hol, hxo, hwq, hyj, hj0, hjn, hm0, hmb, hmf, hqi, hqo, hjt] <;> rfl) (by simp only [go_sem, ↓reduceIte, Nat.reduceEqDiff, Nat.reduceLT, Nat.reduceLeDiff, Nat.reduceAdd, Int.natCast_nonneg, Int.ofNat_lt, List.length_map, decide_true, decide_false, ne_eq, not_true_eq_false, not_false_eq_true, weaks_items, Int.lt_irrefl, hol, hxo, hwq, hyj, hj0, hjn, hm0, hmb, hmf, hqi, hqo, hjt] <;> rfl) ?_
            refine DetC.gdo (by simp only [go_sem, ↓reduceIte, Nat.reduceEqDiff, Nat.reduceLT, Nat.reduceLeDiff, Nat.reduceAdd, Int.natCast_nonneg, Int.ofNat_lt, List.length_map, decide_true, decide_false, ne_eq, not_true_eq_false, not_false_eq_true, weaks_items, Int.lt_irrefl, hol, hxo, hwq, hyj, hj0, hjn, hm0, hmb, hmf, hqi, hqo, hjt] <;> rfl) (by simp only [go_sem, ↓reduceIte, Nat.reduceEqDiff, Nat.reduceLT, Nat.reduceLeDiff, Nat.reduceAdd, Int.natCast_nonneg, Int.ofNat_lt, List.length_map, decide_true, decide_false, ne_eq, not_true_eq_false, not_false_eq_true, weaks_items, Int.lt_irrefl, hol, hxo, hwq, hyj, hj0, hjn, hm0, hmb, hmf, hqi, hqo, hjt] <;> rfl) ?_
            refine DetC.gdo (by simp only [go_sem, ↓reduceIte, Nat.reduceEqDiff, Nat.reduceLT, Nat.reduceLeDiff, Nat.reduceAdd, Int.natCast_nonneg, Int.ofNat_lt, List.length_map, decide_true, decide_false, ne_eq, not_true_eq_false, not_false_eq_true, weaks_items, Int.lt_irrefl, hol, hxo, hwq, hyj, hj0, hjn, hm0, hmb, hmf, hqi, hqo, hjt] <;> rfl) (by simp only [go_sem, ↓reduceIte, Nat.reduceEqDiff, Nat.reduceLT, Nat.reduceLeDiff, Nat.reduceAdd, Int.natCast_nonneg, Int.ofNat_lt, List.length_map, decide_true, decide_false, ne_eq, not_true_eq_false, not_false_eq_true, weaks_items, Int.lt_irrefl, hol, hxo, hwq, hyj, hj0, hjn, hm0, hmb, hmf, hqi, hqo, hjt] <;> rfl) ?_
            refine DetC.gdo (by simp only [go_sem, ↓reduceIte, Nat.reduceEqDiff, Nat.reduceLT, Nat.reduceLeDiff, Nat.reduceAdd, Int.natCast_nonneg, Int.ofNat_lt, List.length_map, decide_true, decide_false, ne_eq, not_true_eq_false, not_false_eq_true, weaks_items, Int.lt_irrefl, hol, hxo, hwq, hyj, hj0, hjn, hm0, hmb, hmf, hqi, hqo, hjt] <;> rfl) (by simp only [go_sem, ↓reduceIte, Nat.reduceEqDiff, Nat.reduceLT, Nat.reduceLeDiff, Nat.reduceAdd, Int.natCast_nonneg, Int.ofNat_lt, List.length_map, decide_true, decide_false, ne_eq, not_true_eq_false, not_false_eq_true, weaks_items, Int.lt_irrefl, hol, hxo, hwq, hyj, hj0, hjn, hm0, hmb, hmf, hqi, hqo, hjt] <;> rfl) ?_
            refine DetC.pre (pre := [_, _]) (by simp only [go_sem, ↓reduceIte, Nat.reduceEqDiff, Nat.reduceLT, Nat.reduceLeDiff, Nat.reduceAdd, Int.natCast_nonneg, Int.ofNat_lt, List.length_map, decide_true, decide_false, ne_eq, not_true_eq_false, not_false_eq_true, weaks_items, Int.lt_irrefl, hol, hxo, hwq, hyj, hj0, hjn, hm0, hmb, hmf, hqi, hqo, hjt] <;> rfl) ?_
            refine DetC.gdo (by simp only [go_sem, ↓reduceIte, Nat.reduceEqDiff, Nat.reduceLT, Nat.reduceLeDiff, Nat.reduceAdd, Int.natCast_nonneg, Int.ofNat_lt, List.length_map, decide_true, decide_false, ne_eq, not_true_eq_false, not_false_eq_true, weaks_items, Int.lt_irrefl, hol, hxo, hwq, hyj, hj0, hjn, hm0, hmb, hmf, hqi, hqo, hjt] <;> rfl) (by simp only [go_sem, ↓reduceIte, Nat.reduceEqDiff, Nat.reduceLT, Nat.reduceLeDiff, Nat.reduceAdd, Int.natCast_nonneg, Int.ofNat_lt, List.length_map, decide_true, decide_false, ne_eq, not_true_eq_false, not_false_eq_true, weaks_items, Int.lt_irrefl, hol, hxo, hwq, hyj, hj0, hjn, hm0, hmb, hmf, hqi, hqo, hjt] <;> rfl) ?_
            refine DetC.gdo (by simp only [go_sem, ↓reduceIte, Nat.reduceEqDiff, Nat.reduceLT, Nat.reduceLeDiff, Nat.reduceAdd, Int.natCast_nonneg, Int.ofNat_lt, List.length_map, decide_true, decide_false, ne_eq, not_true_eq_false, not_false_eq_true, weaks_items, Int.lt_irrefl, hol, hxo, hwq, hyj, hj0, hjn, hm0, hmb, hmf, hqi, hqo, hjt] <;> rfl) (by simp only [go_sem, ↓reduceIte, Nat.reduceEqDiff, Nat.reduceLT, Nat.reduceLeDiff, Nat.reduceAdd, Int.natCast_nonneg, Int.ofNat_lt, List.length_map, decide_true, decide_false, ne_eq, not_true_eq_false, not_false_eq_true, weaks_items, Int.lt_irrefl, hol, hxo, hwq, hyj, hj0, hjn, hm0, hmb, hmf, hqi, hqo, hjt] <;> rfl) ?_
            refine DetC.gdo (by simp only [go_sem, ↓reduceIte, Nat.reduceEqDiff, Nat.reduceLT, Nat.reduceLeDiff, Nat.reduceAdd, Int.natCast_nonneg, Int.ofNat_lt, List.length_map, decide_true, decide_false, ne_eq, not_true_eq_false, not_false_eq_true, weaks_items, Int.lt_irrefl, hol, hxo, hwq, hyj, hj0, hjn, hm0, hmb, hmf, hqi, hqo, hjt] <;> rfl) (by simp only [go_sem, ↓reduceIte, Nat.reduceEqDiff, Nat.reduceLT, Nat.reduceLeDiff, Nat.reduceAdd, Int.natCast_nonneg, Int.ofNat_lt, List.length_map, decide_true, decide_false, ne_eq, not_true_eq_false, not_false_eq_true, weaks_items, Int.lt_irrefl, hol, hxo, hwq, hyj, hj0, hjn, hm0, hmb, hmf, hqi, hqo, hjt] <;> rfl) ?_
            refine DetC.gdo (by simp only [go_sem, ↓reduceIte, Nat.reduceEqDiff, Nat.reduceLT, Nat.reduceLeDiff, Nat.reduceAdd, Int.natCast_nonneg, Int.ofNat_lt, List.length_map, decide_true, decide_false, ne_eq, not_true_eq_false, not_false_eq_true, weaks_items, Int.lt_irrefl, hol, hxo, hwq, hyj, hj0, hjn, hm0, hmb, hmf, hqi, hqo, hjt] <;> rfl) (by simp only [go_sem, ↓reduceIte, Nat.reduceEqDiff, Nat.reduceLT, Nat.reduceLeDiff, Nat.reduceAdd, Int.natCast_nonneg, Int.ofNat_lt, List.length_map, decide_true, decide_false, ne_eq, not_true_eq_false, not_false_eq_true, weaks_items, Int.lt_irrefl, hol, hxo, hwq, hyj, hj0, hjn, hm0, hmb, hmf, hqi, hqo, hjt] <;> rfl) ?_
            refine DetC.gdo (by simp only [go_sem, ↓reduceIte, Nat.reduceEqDiff, Nat.reduceLT, Nat.reduceLeDiff, Nat.reduceAdd, Int.natCast_nonneg, Int.ofNat_lt, List.length_map, decide_true, decide_false, ne_eq, not_true_eq_false, not_false_eq_true, weaks_items, Int.lt_irrefl, hol, hxo, hwq, hyj, hj0, hjn, hm0, hmb, hmf, hqi, hqo, hjt] <;> rfl) (by simp only [go_sem, ↓reduceIte, Nat.reduceEqDiff, Nat.reduceLT, Nat.reduceLeDiff, Nat.reduceAdd, Int.natCast_nonneg, Int.ofNat_lt, List.length_map, decide_true, decide_false, ne_eq, not_true_eq_false, not_false_eq_true, weaks_items, Int.lt_irrefl, hol, hxo, hwq, hyj, hj0, hjn, hm0, hmb, hmf, hqi, hqo, hjt] <;> rfl) ?_
            refine DetC.pre (pre := [_, _]) (by simp only [go_sem, ↓reduceIte, Nat.reduceEqDiff, Nat.reduceLT, Nat.reduceLeDiff, Nat.reduceAdd, Int.natCast_nonneg, Int.ofNat_lt, List.length_map, decide_true, decide_false, ne_eq, not_true_eq_false, not_false_eq_true, weaks_items, Int.lt_irrefl, hol, hxo, hwq, hyj, hj0, hjn, hm0, hmb, hmf, hqi, hqo, hjt] <;> rfl) ?_
            refine DetC.gdo (by simp only [go_sem, ↓reduceIte, Nat.reduceEqDiff, Nat.reduceLT, Nat.reduceLeDiff, Nat.reduceAdd, Int.natCast_nonneg, Int.ofNat_lt, List.length_map, decide_true, decide_false, ne_eq, not_true_eq_false, not_false_eq_true, weaks_items, Int.lt_irrefl, hol, hxo, hwq, hyj, hj0, hjn, hm0, hmb, hmf, hqi, hqo, hjt] <;> rfl) (by simp only [go_sem, ↓reduceIte, Nat.reduceEqDiff, Nat.reduceLT, Nat.reduceLeDiff, Nat.reduceAdd, Int.natCast_nonneg, Int.ofNat_lt, List.length_map, decide_true, decide_false, ne_eq, not_true_eq_false, not_false_eq_true, weaks_items, Int.lt_irrefl, hol, hxo, hwq, hyj, hj0, hjn, hm0, hmb, hmf, hqi, hqo, hjt] <;> rfl) ?_
            refine DetC.gdo (by simp only [go_sem, ↓reduceIte, Nat.reduceEqDiff, Nat.reduceLT, Nat.reduceLeDiff, Nat.reduceAdd, Int.natCast_nonneg, Int.ofNat_lt, List.length_map, decide_true, decide_false, ne_eq, not_true_eq_false, not_false_eq_true, weaks_items, Int.lt_irrefl, hol, hxo, hwq, hyj, hj0, hjn, hm0, hmb, hmf, hqi, hqo, hjt] <;> rfl) (by simp only [go_sem, ↓reduceIte, Nat.reduceEqDiff, Nat.reduceLT, Nat.reduceLeDiff, Nat.reduceAdd, Int.natCast_nonneg, Int.ofNat_lt, List.length_map, decide_true, decide_false, ne_eq, not_true_eq_false, not_false_eq_true, weaks_items, Int.lt_irrefl, hol, hxo, hwq, hyj, hj0, hjn, hm0, hmb, hmf, hqi, hqo, hjt] <;> rfl) ?_
            refine DetC.gdo (by simp only [go_sem, ↓reduceIte, Nat.reduceEqDiff, Nat.reduceLT, Nat.reduceLeDiff, Nat.reduceAdd, Int.natCast_nonneg, Int.ofNat_lt, List.length_map, decide_true, decide_false, ne_eq, not_true_eq_false, not_false_eq_true, weaks_items, Int.lt_irrefl, hol, hxo, hwq, hyj, hj0, hjn, hm0, hmb, hmf, hqi, hqo, hjt] <;> rfl) (by simp only [go_sem, ↓reduceIte, Nat.reduceEqDiff, Nat.reduceLT, Nat.reduceLeDiff, Nat.reduceAdd, Int.natCast_nonneg, Int.ofNat_lt, List.length_map, decide_true, decide_false, ne_eq, not_true_eq_false, not_false_eq_true, weaks_items, Int.lt_irrefl, hol, hxo, hwq, hyj, hj0, hjn, hm0, hmb, hmf, hqi, hqo, hjt] <;> rfl) ?_
            refine DetC.gdo (by simp only [go_sem, ↓reduceIte, Nat.reduceEqDiff, Nat.reduceLT, Nat.reduceLeDiff, Nat.reduceAdd, Int.natCast_nonneg, Int.ofNat_lt, List.length_map, decide_true, decide_false, ne_eq, not_true_eq_false, not_false_eq_true, weaks_items, Int.lt_irrefl, hol, hxo, hwq, hyj, hj0, hjn, hm0, hmb, hmf, hqi, hqo, hjt] <;> rfl) (by simp only [go_sem, ↓reduceIte, Nat.reduceEqDiff, Nat.reduceLT, Nat.reduceLeDiff, Nat.reduceAdd, Int.natCast_nonneg, Int.ofNat_lt, List.length_map, decide_true, decide_false, ne_eq, not_true_eq_false, not_false_eq_true, weaks_items, Int.lt_irrefl, hol, hxo, hwq, hyj, hj0, hjn, hm0, hmb, hmf, hqi, hqo, hjt] <;> rfl) ?_
            refine DetC.gdo (by simp only [go_sem, ↓reduceIte, Nat.reduceEqDiff, Nat.reduceLT, Nat.reduceLeDiff, Nat.reduceAdd, Int.natCast_nonneg, Int.ofNat_lt, List.length_map, decide_true, decide_false, ne_eq, not_true_eq_false, not_false_eq_true, weaks_items, Int.lt_irrefl, hol, hxo, hwq, hyj, hj0, hjn, hm0, hmb, hmf, hqi, hqo, hjt] <;> rfl) (by simp only [go_sem, ↓reduceIte, Nat.reduceEqDiff, Nat.reduceLT, Nat.reduceLeDiff, Nat.reduceAdd, Int.natCast_nonneg, Int.ofNat_lt, List.length_map, decide_true, decide_false, ne_eq, not_true_eq_false, not_false_eq_true, weaks_items, Int.lt_irrefl, hol, hxo, hwq, hyj, hj0, hjn, hm0, hmb, hmf, hqi, hqo, hjt] <;> rfl) ?_
            refine DetC.gdo (by simp only [go_sem, ↓reduceIte, Nat.reduceEqDiff, Nat.reduceLT, Nat.reduceLeDiff, Nat.reduceAdd, Int.natCast_nonneg, Int.ofNat_lt, List.length_map, decide_true, decide_false, ne_eq, not_true_eq_false, not_false_eq_true, weaks_items, Int.lt_irrefl, hol, hxo, hwq, hyj, hj0, hjn, hm0, hmb, hmf, hqi, hqo, hjt] <;> rfl) (by simp only [go_sem, ↓reduceIte, Nat.reduceEqDiff, Nat.reduceLT, Nat.reduceLeDiff, Nat.reduceAdd, Int.natCast_nonneg, Int.ofNat_lt, List.length_map, decide_true, decide_false, ne_eq, not_true_eq_false, not_false_eq_true, weaks_items, Int.lt_irrefl, hol, hxo, hwq, hyj, hj0, hjn, hm0, hmb, hmf, hqi, hqo, hjt] <;> rfl) ?_
            refine DetC.gdo (by simp only [go_sem, ↓reduceIte, Nat.reduceEqDiff, Nat.reduceLT, Nat.reduceLeDiff, Nat.reduceAdd, Int.natCast_nonneg, Int.ofNat_lt, List.length_map, decide_true, decide_false, ne_eq, not_true_eq_false, not_false_eq_true, weaks_items, Int.lt_irrefl, hol, hxo, hwq, hyj, hj0, hjn, hm0, hmb, hmf, hqi, hqo, hjt] <;> rfl) (by simp only [go_sem, ↓reduceIte, Nat.reduceEqDiff, Nat.reduceLT, Nat.reduceLeDiff, Nat.reduceAdd, Int.natCast_nonneg, Int.ofNat_lt, List.length_map, decide_true, decide_false, ne_eq, not_true_eq_false, not_false_eq_true, weaks_items, Int.lt_irrefl, hol, hxo, hwq, hyj, hj0, hjn, hm0, hmb, hmf, hqi, hqo, hjt] <;> rfl) ?_
            refine DetC.gdo (by simp only [go_sem, ↓reduceIte, Nat.reduceEqDiff, Nat.reduceLT, Nat.reduceLeDiff, Nat.reduceAdd, Int.natCast_nonneg, Int.ofNat_lt, List.length_map, decide_true, decide_false, ne_eq, not_true_eq_false, not_false_eq_true, weaks_items, Int.lt_irrefl, hol, hxo, hwq, hyj, hj0, hjn, hm0, hmb, hmf, hqi, hqo, hjt] <;> rfl) (by simp only [go_sem, ↓reduceIte, Nat.reduceEqDiff, Nat.reduceLT, Nat.reduceLeDiff, Nat.reduceAdd, Int.natCast_nonneg, Int.ofNat_lt, List.length_map, decide_true, decide_false, ne_eq, not_true_eq_false, not_false_eq_true, weaks_items, Int.lt_irrefl, hol, hxo, hwq, hyj, hj0, hjn, hm0, hmb, hmf, hqi, hqo, hjt] <;> rfl) ?_
            refine DetC.pre (pre := [_, _]) (by simp only [go_sem, ↓reduceIte, Nat.reduceEqDiff, Nat.reduceLT, Nat.reduceLeDiff, Nat.reduceAdd, Int.natCast_nonneg, Int.ofNat_lt, List.length_map, decide_true, decide_false, ne_eq, not_true_eq_false, not_false_eq_true, weaks_items, Int.lt_irrefl, hol, hxo, hwq, hyj, hj0, hjn, hm0, hmb, hmf, hqi, hqo, hjt] <;> rfl) ?_
            refine DetC.gdo (by simp only [go_sem, ↓reduceIte, Nat.reduceEqDiff, Nat.reduceLT, Nat.reduceLeDiff, Nat.reduceAdd, Int.natCast_nonneg, Int.ofNat_lt, List.length_map, decide_true, decide_false, ne_eq, not_true_eq_false, not_false_eq_true, weaks_items, Int.lt_irrefl, hol, hxo, hwq, hyj, hj0, hjn, hm0, hmb, hmf, hqi, hqo, hjt] <;> rfl) (by simp only [go_sem, ↓reduceIte, Nat.reduceEqDiff, Nat.reduceLT, Nat.reduceLeDiff, Nat.reduceAdd, Int.natCast_nonneg, Int.ofNat_lt, List.length_map, decide_true, decide_false, ne_eq, not_true_eq_false, not_false_eq_true, weaks_items, Int.lt_irrefl, hol, hxo, hwq, hyj, hj0, hjn, hm0, hmb, hmf, hqi, hqo, hjt] <;> rfl) ?_
            refine DetC.gdo (by simp only [go_sem, ↓reduceIte, Nat.reduceEqDiff, Nat.reduceLT, Nat.reduceLeDiff, Nat.reduceAdd, Int.natCast_nonneg, Int.ofNat_lt, List.length_map, decide_true, decide_false, ne_eq, not_true_eq_false, not_false_eq_true, weaks_items, Int.lt_irrefl, hol, hxo, hwq, hyj, hj0, hjn, hm0, hmb, hmf, hqi, hqo, hjt] <;> rfl) (by simp only [go_sem, ↓reduceIte, Nat.reduceEqDiff, Nat.reduceLT, Nat.reduceLeDiff, Nat.reduceAdd, Int.natCast_nonneg, Int.ofNat_lt, List.length_map, decide_true, decide_false, ne_eq, not_true_eq_false, not_false_eq_true, weaks_items, Int.lt_irrefl, hol, hxo, hwq, hyj, hj0, hjn, hm0, hmb, hmf, hqi, hqo, hjt] <;> rfl) ?_
            refine DetC.gdo (by simp only [go_sem, ↓reduceIte, Nat.reduceEqDiff, Nat.reduceLT, Nat.reduceLeDiff, Nat.reduceAdd, Int.natCast_nonneg, Int.ofNat_lt, List.length_map, decide_true, decide_false, ne_eq, not_true_eq_false, not_false_eq_true, weaks_items, Int.lt_irrefl, hol, hxo, hwq, hyj, hj0, hjn, hm0, hmb, hmf, hqi, hqo, hjt] <;> rfl) (by simp only [go_sem, ↓reduceIte, Nat.reduceEqDiff, Nat.reduceLT, Nat.reduceLeDiff, Nat.reduceAdd, Int.natCast_nonneg, Int.ofNat_lt, List.length_map, decide_true, decide_false, ne_eq, not_true_eq_false, not_false_eq_true, weaks_items, Int.lt_irrefl, hol, hxo, hwq, hyj, hj0, hjn, hm0, hmb, hmf, hqi, hqo, hjt] <;> rfl) ?_
            refine DetC.gdo (by simp only [go_sem, ↓reduceIte, Nat.reduceEqDiff, Nat.reduceLT, Nat.reduceLeDiff, Nat.reduceAdd, Int.natCast_nonneg, Int.ofNat_lt, List.length_map, decide_true, decide_false, ne_eq, not_true_eq_false, not_false_eq_true, weaks_items, Int.lt_irrefl, hol, hxo, hwq, hyj, hj0, hjn, hm0, hmb, hmf, hqi, hqo, hjt] <;> rfl) (by simp only [go_sem, ↓reduceIte, Nat.reduceEqDiff, Nat.reduceLT, Nat.reduceLeDiff, Nat.reduceAdd, Int.natCast_nonneg, Int.ofNat_lt, List.length_map, decide_true, decide_false, ne_eq, not_true_eq_false, not_false_eq_true, weaks_items, Int.lt_irrefl, hol, hxo, hwq, hyj, hj0, hjn, hm0, hmb, hmf, hqi, hqo, hjt] <;> rfl) ?_
            refine DetC.gdo (by simp only [go_sem, ↓reduceIte, Nat.reduceEqDiff, Nat.reduceLT, Nat.reduceLeDiff, Nat.reduceAdd, Int.natCast_nonneg, Int.ofNat_lt, List.length_map, decide_true, decide_false, ne_eq, not_true_eq_false, not_false_eq_true, weaks_items, Int.lt_irrefl, hol, hxo, hwq, hyj, hj0, hjn, hm0, hmb, hmf, hqi, hqo, hjt] <;> rfl) (by simp only [go_sem, ↓reduceIte, Nat.reduceEqDiff, Nat.reduceLT, Nat.reduceLeDiff, Nat.reduceAdd, Int.natCast_nonneg, Int.ofNat_lt, List.length_map, decide_true, decide_false, ne_eq, not_true_eq_false, not_false_eq_true, weaks_items, Int.lt_irrefl, hol, hxo, hwq, hyj, hj0, hjn, hm0, hmb, hmf, hqi, hqo, hjt] <;> rfl) ?_
            refine DetC.pre (pre := [_, _]) (by simp only [go_sem, ↓reduceIte, Nat.reduceEqDiff, Nat.reduceLT, Nat.reduceLeDiff, Nat.reduceAdd, Int.natCast_nonneg, Int.ofNat_lt, List.length_map, decide_true, decide_false, ne_eq, not_true_eq_false, not_false_eq_true, weaks_items, Int.lt_irrefl, hol, hxo, hwq, hyj, hj0, hjn, hm0, hmb, hmf, hqi, hqo, hjt] <;> rfl) ?_
            refine DetC.gdo (by simp only [go_sem, ↓reduceIte, Nat.reduceEqDiff, Nat.reduceLT, Nat.reduceLeDiff, Nat.reduceAdd, Int.natCast_nonneg, Int.ofNat_lt, List.length_map, decide_true, decide_false, ne_eq, not_true_eq_false, not_false_eq_true, weaks_items, Int.lt_irrefl, hol, hxo, hwq, hyj, hj0, hjn, hm0, hmb, hmf, hqi, hqo, hjt] <;> rfl) (by simp only [go_sem, ↓reduceIte, Nat.reduceEqDiff, Nat.reduceLT, Nat.reduceLeDiff, Nat.reduceAdd, Int.natCast_nonneg, Int.ofNat_lt, List.length_map, decide_true, decide_false, ne_eq, not_true_eq_false, not_false_eq_true, weaks_items, Int.lt_irrefl, hol, hxo, hwq, hyj, hj0, hjn, hm0, hmb, hmf, hqi, hqo, hjt] <;> rfl) ?_
            refine DetC.gdo (by simp only [go_sem, ↓reduceIte, Nat.reduceEqDiff, Nat.reduceLT, Nat.reduceLeDiff, Nat.reduceAdd, Int.natCast_nonneg, Int.ofNat_lt, List.length_map, decide_true, decide_false, ne_eq, not_true_eq_false, not_false_eq_true, weaks_items, Int.lt_irrefl, hol, hxo, hwq, hyj, hj0, hjn, hm0, hmb, hmf, hqi, hqo, hjt] <;> rfl) (by simp only [go_sem, ↓reduceIte, Nat.reduceEqDiff, Nat.reduceLT, Nat.reduceLeDiff, Nat.reduceAdd, Int.natCast_nonneg, Int.ofNat_lt, List.length_map, decide_true, decide_false, ne_eq, not_true_eq_false, not_false_eq_true, weaks_items, Int.lt_irrefl, hol, hxo, hwq, hyj, hj0, hjn, hm0, hmb, hmf, hqi, hqo, hjt] <;> rfl) ?_
            refine DetC.gdo (by simp only [go_sem, ↓reduceIte, Nat.reduceEqDiff, Nat.reduceLT, Nat.reduceLeDiff, Nat.reduceAdd, Int.natCast_nonneg, Int.ofNat_lt, List.length_map, decide_true, decide_false, ne_eq, not_true_eq_false, not_false_eq_true, weaks_items, Int.lt_irrefl, hol, hxo, hwq, hyj, hj0, hjn, hm0, hmb, hmf, hqi, hqo, hjt] <;> rfl) (by simp only [go_sem, ↓reduceIte, Nat.reduceEqDiff, Nat.reduceLT, Nat.reduceLeDiff, Nat.reduceAdd, Int.natCast_nonneg, Int.ofNat_lt, List.length_map, decide_true, decide_false, ne_eq, not_true_eq_false, not_false_eq_true, weaks_items, Int.lt_irrefl, hol, hxo, hwq, hyj, hj0, hjn, hm0, hmb, hmf, hqi, hqo, hjt] <;> rfl) ?_
            rcases hd36 : (decide ((0 : Int) < (q : Int))) with _ | _
            · refine DetC.gskip' (by simp only [go_sem, ↓reduceIte, Nat.reduceEqDiff, Nat.reduceLT, Nat.reduceLeDiff, Nat.reduceAdd, Int.natCast_nonneg, Int.ofNat_lt, List.length_map, decide_true, decide_false, ne_eq, not_true_eq_false, not_false_eq_true, weaks_items, Int.lt_irrefl, hol, hxo, hwq, hyj, hj0, hjn, hm0, hmb, hmf, hqi, hqo, hjt, hd36] <;> rfl) ?_
              refine DetC.gskip' (by simp only [go_sem, ↓reduceIte, Nat.reduceEqDiff, Nat.reduceLT, Nat.reduceLeDiff, Nat.reduceAdd, Int.natCast_nonneg, Int.ofNat_lt, List.length_map, decide_true, decide_false, ne_eq, not_true_eq_false, not_false_eq_true, weaks_items, Int.lt_irrefl, hol, hxo, hwq, hyj, hj0, hjn, hm0, hmb, hmf, hqi, hqo, hjt, hd36] <;> rfl) ?_
              refine DetC.gskip' (by simp only [go_sem, ↓reduceIte, Nat.reduceEqDiff, Nat.reduceLT, Nat.reduceLeDiff, Nat.reduceAdd, Int.natCast_nonneg, Int.ofNat_lt, List.length_map, decide_true, decide_false, ne_eq, not_true_eq_false, not_false_eq_true, weaks_items, Int.lt_irrefl, hol, hxo, hwq, hyj, hj0, hjn, hm0, hmb, hmf, hqi, hqo, hjt, hd36] <;> rfl) ?_
              refine DetC.gskip' (by simp only [go_sem, ↓reduceIte, Nat.reduceEqDiff, Nat.reduceLT, Nat.reduceLeDiff, Nat.reduceAdd, Int.natCast_nonneg, Int.ofNat_lt, List.length_map, decide_true, decide_false, ne_eq, not_true_eq_false, not_false_eq_true, weaks_items, Int.lt_irrefl, hol, hxo, hwq, hyj, hj0, hjn, hm0, hmb, hmf, hqi, hqo, hjt, hd36] <;> rfl) ?_
              refine DetC.gskip' (by simp only [go_sem, ↓reduceIte, Nat.reduceEqDiff, Nat.reduceLT, Nat.reduceLeDiff, Nat.reduceAdd, Int.natCast_nonneg, Int.ofNat_lt, List.length_map, decide_true, decide_false, ne_eq, not_true_eq_false, not_false_eq_true, weaks_items, Int.lt_irrefl, hol, hxo, hwq, hyj, hj0, hjn, hm0, hmb, hmf, hqi, hqo, hjt, hd36] <;> rfl) ?_
              refine DetC.gskip' (by simp only [go_sem, ↓reduceIte, Nat.reduceEqDiff, Nat.reduceLT, Nat.reduceLeDiff, Nat.reduceAdd, Int.natCast_nonneg, Int.ofNat_lt, List.length_map, decide_true, decide_false, ne_eq, not_true_eq_false, not_false_eq_true, weaks_items, Int.lt_irrefl, hol, hxo, hwq, hyj, hj0, hjn, hm0, hmb, hmf, hqi, hqo, hjt, hd36] <;> rfl) ?_
              refine DetC.gskip' (by simp only [go_sem, ↓reduceIte, Nat.reduceEqDiff, Nat.reduceLT, Nat.reduceLeDiff, Nat.reduceAdd, Int.natCast_nonneg, Int.ofNat_lt, List.length_map, decide_true, decide_false, ne_eq, not_true_eq_false, not_false_eq_true, weaks_items, Int.lt_irrefl, hol, hxo, hwq, hyj, hj0, hjn, hm0, hmb, hmf, hqi, hqo, hjt, hd36] <;> rfl) ?_
              refine DetC.gskip' (by simp only [go_sem, ↓reduceIte, Nat.reduceEqDiff, Nat.reduceLT, Nat.reduceLeDiff, Nat.reduceAdd, Int.natCast_nonneg, Int.ofNat_lt, List.length_map, decide_true, decide_false, ne_eq, not_true_eq_false, not_false_eq_true, weaks_items, Int.lt_irrefl, hol, hxo, hwq, hyj, hj0, hjn, hm0, hmb, hmf, hqi, hqo, hjt, hd36] <;> rfl) ?_
              refine DetC.gdo (by simp only [go_sem, ↓reduceIte, Nat.reduceEqDiff, Nat.reduceLT, Nat.reduceLeDiff, Nat.reduceAdd, Int.natCast_nonneg, Int.ofNat_lt, List.length_map, decide_true, decide_false, ne_eq, not_true_eq_false, not_false_eq_true, weaks_items, Int.lt_irrefl, hol, hxo, hwq, hyj, hj0, hjn, hm0, hmb, hmf, hqi, hqo, hjt, hd36] <;> rfl) (by simp only [go_sem, ↓reduceIte, Nat.reduceEqDiff, Nat.reduceLT, Nat.reduceLeDiff, Nat.reduceAdd, Int.natCast_nonneg, Int.ofNat_lt, List.length_map, decide_true, decide_false, ne_eq, not_true_eq_false, not_false_eq_true, weaks_items, Int.lt_irrefl, hol, hxo, hwq, hyj, hj0, hjn, hm0, hmb, hmf, hqi, hqo, hjt, hd36] <;> rfl) ?_
              refine DetC.all (by simp only [go_sem, ↓reduceIte, Nat.reduceEqDiff, Nat.reduceLT, Nat.reduceLeDiff, Nat.reduceAdd, Int.natCast_nonneg, Int.ofNat_lt, List.length_map, decide_true, decide_false, ne_eq, not_true_eq_false, not_false_eq_true, weaks_items, Int.lt_irrefl, hol, hxo, hwq, hyj, hj0, hjn, hm0, hmb, hmf, hqi, hqo, hjt, hd36] <;> rfl) ?_
              refine Run.envEq' (by simp only [go_sem, ↓reduceIte, Nat.reduceEqDiff, Nat.reduceLT, Nat.reduceLeDiff, Nat.reduceAdd, Int.natCast_nonneg, Int.ofNat_lt, List.length_map, decide_true, decide_false, ne_eq, not_true_eq_false, not_false_eq_true, weaks_items, Int.lt_irrefl, hol, hxo, hwq, hyj, hj0, hjn, hm0, hmb, hmf, hqi, hqo, hjt, hd36] <;> rfl) ?_
              refine Run.cond (by simp only [go_sem, ↓reduceIte, Nat.reduceEqDiff, Nat.reduceLT, Nat.reduceLeDiff, Nat.reduceAdd, Int.natCast_nonneg, Int.ofNat_lt, List.length_map, decide_true, decide_false, ne_eq, not_true_eq_false, not_false_eq_true, weaks_items, Int.lt_irrefl, hol, hxo, hwq, hyj, hj0, hjn, hm0, hmb, hmf, hqi, hqo, hjt, hd36] <;> rfl) (fun hc5 => ?_) (fun hc5 => ?_)
              · cases hc5
              · have hc := hc5
                refine Run.skip ?_
                refine Run.region ?_
                refine RunO.all (by simp only [go_sem, ↓reduceIte, Nat.reduceEqDiff, Nat.reduceLT, Nat.reduceLeDiff, Nat.reduceAdd, Int.natCast_nonneg, Int.ofNat_lt, List.length_map, decide_true, decide_false, ne_eq, not_true_eq_false, not_false_eq_true, weaks_items, Int.lt_irrefl, hol, hxo, hwq, hyj, hj0, hjn, hm0, hmb, hmf, hqi, hqo, hjt, hd36] <;> rfl) ?_
                refine RunO.live' [0, 4, 6, 7, 42, 43, 44] (by simp only [go_sem, ↓reduceIte, Nat.reduceEqDiff, Nat.reduceLT, Nat.reduceLeDiff, Nat.reduceAdd, Int.natCast_nonneg, Int.ofNat_lt, List.length_map, decide_true, decide_false, ne_eq, not_true_eq_false, not_false_eq_true, weaks_items, Int.lt_irrefl, hol, hxo, hwq, hyj, hj0, hjn, hm0, hmb, hmf, hqi, hqo, hjt, hd36] <;> rfl) ?_
                refine Run.blk ?_
                refine Run.region ?_
                refine RunO.all (by simp only [go_sem, ↓reduceIte, Nat.reduceEqDiff, Nat.reduceLT, Nat.reduceLeDiff, Nat.reduceAdd, Int.natCast_nonneg, Int.ofNat_lt, List.length_map, decide_true, decide_false, ne_eq, not_true_eq_false, not_false_eq_true, weaks_items, Int.lt_irrefl, hol, hxo, hwq, hyj, hj0, hjn, hm0, hmb, hmf, hqi, hqo, hjt, hd36] <;> rfl) ?_
                refine RunO.live' [0, 4, 6, 7, 42, 43, 44] (by simp only [go_sem, ↓reduceIte, Nat.reduceEqDiff, Nat.reduceLT, Nat.reduceLeDiff, Nat.reduceAdd, Int.natCast_nonneg, Int.ofNat_lt, List.length_map, decide_true, decide_false, ne_eq, not_true_eq_false, not_false_eq_true, weaks_items, Int.lt_irrefl, hol, hxo, hwq, hyj, hj0, hjn, hm0, hmb, hmf, hqi, hqo, hjt, hd36] <;> rfl) ?_
                refine Run.lp ⟨⟨q + 1, m, rfl, by omega, by simp only [go_sem]; omega, ?_⟩, ?_⟩
                · rw [take_succ_at0 hqo, hxe]
                  simp only [go_sem, ↓reduceIte, seenP, List.map_append]
                · simp only [ivar, go_sem, ↓reduceIte, Nat.reduceEqDiff]
                  omega
            · have hq0 : 0 < q := by have := of_decide_eq_true hd36; omega
              have hws : IntKind.i64.wrap ((q : Int) - 1) = ((q - 1 : Nat) : Int) := by rw [wrap_i64 (by omega)]; omega
              have hql : ((q : Int) - 1 < (out.length : Int)) = True := eq_true (by omega)
              have hxp : (out.map Item.pv)[q - 1]? = some (.agg [.int .i64 (at0 out (q - 1)).tick, .int .i64 (at0 out (q - 1)).order, .int .i64 (at0 out (q - 1)).key]) := map_at0 (by omega)
              have hlt : (at0 out (q - 1)).lt ⟨tk ticks j, j, j⟩ = true := by
                rw [← hxe]
                exact lt_of_ne (at0_sorted q3 (by omega) hqo) (at0_nodup hnd (by omega) hqo)
              refine DetC.gdo (by simp only [go_sem, ↓reduceIte, Nat.reduceEqDiff, Nat.reduceLT, Nat.reduceLeDiff, Nat.reduceAdd, Int.natCast_nonneg, Int.ofNat_lt, List.length_map, decide_true, decide_false, ne_eq, not_true_eq_false, not_false_eq_true, weaks_items, Int.lt_irrefl, hol, hxo, hwq, hyj, hj0, hjn, hm0, hmb, hmf, hqi, hqo, hjt, hd36, hws, hql, hxp, hlt] <;> rfl) (by simp only [go_sem, ↓reduceIte, Nat.reduceEqDiff, Nat.reduceLT, Nat.reduceLeDiff, Nat.reduceAdd, Int.natCast_nonneg, Int.ofNat_lt, List.length_map, decide_true, decide_false, ne_eq, not_true_eq_false, not_false_eq_true, weaks_items, Int.lt_irrefl, hol, hxo, hwq, hyj, hj0, hjn, hm0, hmb, hmf, hqi, hqo, hjt, hd36, hws, hql, hxp, hlt] <;> rfl) ?_
              refine DetC.gdo (by simp only [go_sem, ↓reduceIte, Nat.reduceEqDiff, Nat.reduceLT, Nat.reduceLeDiff, Nat.reduceAdd, Int.natCast_nonneg, Int.ofNat_lt, List.length_map, decide_true, decide_false, ne_eq, not_true_eq_false, not_false_eq_true, weaks_items, Int.lt_irrefl, hol, hxo, hwq, hyj, hj0, hjn, hm0, hmb, hmf, hqi, hqo, hjt, hd36, hws, hql, hxp, hlt] <;> rfl) (by simp only [go_sem, ↓reduceIte, Nat.reduceEqDiff, Nat.reduceLT, Nat.reduceLeDiff, Nat.reduceAdd, Int.natCast_nonneg, Int.ofNat_lt, List.length_map, decide_true, decide_false, ne_eq, not_true_eq_false, not_false_eq_true, weaks_items, Int.lt_irrefl, hol, hxo, hwq, hyj, hj0, hjn, hm0, hmb, hmf, hqi, hqo, hjt, hd36, hws, hql, hxp, hlt] <;> rfl) ?_
              refine DetC.gdo (by simp only [go_sem, ↓reduceIte, Nat.reduceEqDiff, Nat.reduceLT, Nat.reduceLeDiff, Nat.reduceAdd, Int.natCast_nonneg, Int.ofNat_lt, List.length_map, decide_true, decide_false, ne_eq, not_true_eq_false, not_false_eq_true, weaks_items, Int.lt_irrefl, hol, hxo, hwq, hyj, hj0, hjn, hm0, hmb, hmf, hqi, hqo, hjt, hd36, hws, hql, hxp, hlt] <;> rfl) (by simp only [go_sem, ↓reduceIte, Nat.reduceEqDiff, Nat.reduceLT, Nat.reduceLeDiff, Nat.reduceAdd, Int.natCast_nonneg, Int.ofNat_lt, List.length_map, decide_true, decide_false, ne_eq, not_true_eq_false, not_false_eq_true, weaks_items, Int.lt_irrefl, hol, hxo, hwq, hyj, hj0, hjn, hm0, hmb, hmf, hqi, hqo, hjt, hd36, hws, hql, hxp, hlt] <;> rfl) ?_
              refine DetC.gdo (by simp only [go_sem, ↓reduceIte, Nat.reduceEqDiff, Nat.reduceLT, Nat.reduceLeDiff, Nat.reduceAdd, Int.natCast_nonneg, Int.ofNat_lt, List.length_map, decide_true, decide_false, ne_eq, not_true_eq_false, not_false_eq_true, weaks_items, Int.lt_irrefl, hol, hxo, hwq, hyj, hj0, hjn, hm0, hmb, hmf, hqi, hqo, hjt, hd36, hws, hql, hxp, hlt] <;> rfl) (by simp only [go_sem, ↓reduceIte, Nat.reduceEqDiff, Nat.reduceLT, Nat.reduceLeDiff, Nat.reduceAdd, Int.natCast_nonneg, Int.ofNat_lt, List.length_map, decide_true, decide_false, ne_eq, not_true_eq_false, not_false_eq_true, weaks_items, Int.lt_irrefl, hol, hxo, hwq, hyj, hj0, hjn, hm0, hmb, hmf, hqi, hqo, hjt, hd36, hws, hql, hxp, hlt] <;> rfl) ?_
              refine DetC.gdo (by simp only [go_sem, ↓reduceIte, Nat.reduceEqDiff, Nat.reduceLT, Nat.reduceLeDiff, Nat.reduceAdd, Int.natCast_nonneg, Int.ofNat_lt, List.length_map, decide_true, decide_false, ne_eq, not_true_eq_false, not_false_eq_true, weaks_items, Int.lt_irrefl, hol, hxo, hwq, hyj, hj0, hjn, hm0, hmb, hmf, hqi, hqo, hjt, hd36, hws, hql, hxp, hlt] <;> rfl) (by simp only [go_sem, ↓reduceIte, Nat.reduceEqDiff, Nat.reduceLT, Nat.reduceLeDiff, Nat.reduceAdd, Int.natCast_nonneg, Int.ofNat_lt, List.length_map, decide_true, decide_false, ne_eq, not_true_eq_false, not_false_eq_true, weaks_items, Int.lt_irrefl, hol, hxo, hwq, hyj, hj0, hjn, hm0, hmb, hmf, hqi, hqo, hjt, hd36, hws, hql, hxp, hlt] <;> rfl) ?_
              refine DetC.gdo (by simp only [go_sem, ↓reduceIte, Nat.reduceEqDiff, Nat.reduceLT, Nat.reduceLeDiff, Nat.reduceAdd, Int.natCast_nonneg, Int.ofNat_lt, List.length_map, decide_true, decide_false, ne_eq, not_true_eq_false, not_false_eq_true, weaks_items, Int.lt_irrefl, hol, hxo, hwq, hyj, hj0, hjn, hm0, hmb, hmf, hqi, hqo, hjt, hd36, hws, hql, hxp, hlt] <;> rfl) (by simp only [go_sem, ↓reduceIte, Nat.reduceEqDiff, Nat.reduceLT, Nat.reduceLeDiff, Nat.reduceAdd, Int.natCast_nonneg, Int.ofNat_lt, List.length_map, decide_true, decide_false, ne_eq, not_true_eq_false, not_false_eq_true, weaks_items, Int.lt_irrefl, hol, hxo, hwq, hyj, hj0, hjn, hm0, hmb, hmf, hqi, hqo, hjt, hd36, hws, hql, hxp, hlt] <;> rfl) ?_
              refine DetC.call (by simp only [go_sem, ↓reduceIte, Nat.reduceEqDiff, Nat.reduceLT, Nat.reduceLeDiff, Nat.reduceAdd, Int.natCast_nonneg, Int.ofNat_lt, List.length_map, decide_true, decide_false, ne_eq, not_true_eq_false, not_false_eq_true, weaks_items, Int.lt_irrefl, hol, hxo, hwq, hyj, hj0, hjn, hm0, hmb, hmf, hqi, hqo, hjt, hd36, hws, hql, hxp, hlt] <;> rfl) (by simp only [go_sem, ↓reduceIte, Nat.reduceEqDiff, Nat.reduceLT, Nat.reduceLeDiff, Nat.reduceAdd, Int.natCast_nonneg, Int.ofNat_lt, List.length_map, decide_true, decide_false, ne_eq, not_true_eq_false, not_false_eq_true, weaks_items, Int.lt_irrefl, hol, hxo, hwq, hyj, hj0, hjn, hm0, hmb, hmf, hqi, hqo, hjt, hd36, hws, hql, hxp, hlt] <;> rfl) (by simp only [go_sem, ↓reduceIte, Nat.reduceEqDiff, Nat.reduceLT, Nat.reduceLeDiff, Nat.reduceAdd, Int.natCast_nonneg, Int.ofNat_lt, List.length_map, decide_true, decide_false, ne_eq, not_true_eq_false, not_false_eq_true, weaks_items, Int.lt_irrefl, hol, hxo, hwq, hyj, hj0, hjn, hm0, hmb, hmf, hqi, hqo, hjt, hd36, hws, hql, hxp, hlt] <;> rfl) (by kernel_rfl) (before_ (a := at0 out (q - 1)) (b := ⟨tk ticks j, j, j⟩)) ?_
              refine DetC.gdo (by simp only [go_sem, ↓reduceIte, Nat.reduceEqDiff, Nat.reduceLT, Nat.reduceLeDiff, Nat.reduceAdd, Int.natCast_nonneg, Int.ofNat_lt, List.length_map, decide_true, decide_false, ne_eq, not_true_eq_false, not_false_eq_true, weaks_items, Int.lt_irrefl, hol, hxo, hwq, hyj, hj0, hjn, hm0, hmb, hmf, hqi, hqo, hjt, hd36, hws, hql, hxp, hlt] <;> rfl) (by simp only [go_sem, ↓reduceIte, Nat.reduceEqDiff, Nat.reduceLT, Nat.reduceLeDiff, Nat.reduceAdd, Int.natCast_nonneg, Int.ofNat_lt, List.length_map, decide_true, decide_false, ne_eq, not_true_eq_false, not_false_eq_true, weaks_items, Int.lt_irrefl, hol, hxo, hwq, hyj, hj0, hjn, hm0, hmb, hmf, hqi, hqo, hjt, hd36, hws, hql, hxp, hlt] <;> rfl) ?_
              refine DetC.gdo (by simp only [go_sem, ↓reduceIte, Nat.reduceEqDiff, Nat.reduceLT, Nat.reduceLeDiff, Nat.reduceAdd, Int.natCast_nonneg, Int.ofNat_lt, List.length_map, decide_true, decide_false, ne_eq, not_true_eq_false, not_false_eq_true, weaks_items, Int.lt_irrefl, hol, hxo, hwq, hyj, hj0, hjn, hm0, hmb, hmf, hqi, hqo, hjt, hd36, hws, hql, hxp, hlt] <;> rfl) (by simp only [go_sem, ↓reduceIte, Nat.reduceEqDiff, Nat.reduceLT, Nat.reduceLeDiff, Nat.reduceAdd, Int.natCast_nonneg, Int.ofNat_lt, List.length_map, decide_true, decide_false, ne_eq, not_true_eq_false, not_false_eq_true, weaks_items, Int.lt_irrefl, hol, hxo, hwq, hyj, hj0, hjn, hm0, hmb, hmf, hqi, hqo, hjt, hd36, hws, hql, hxp, hlt] <;> rfl) ?_
              refine DetC.all (by simp only [go_sem, ↓reduceIte, Nat.reduceEqDiff, Nat.reduceLT, Nat.reduceLeDiff, Nat.reduceAdd, Int.natCast_nonneg, Int.ofNat_lt, List.length_map, decide_true, decide_false, ne_eq, not_true_eq_false, not_false_eq_true, weaks_items, Int.lt_irrefl, hol, hxo, hwq, hyj, hj0, hjn, hm0, hmb, hmf, hqi, hqo, hjt, hd36, hws, hql, hxp, hlt] <;> rfl) ?_
              refine Run.envEq' (by simp only [go_sem, ↓reduceIte, Nat.reduceEqDiff, Nat.reduceLT, Nat.reduceLeDiff, Nat.reduceAdd, Int.natCast_nonneg, Int.ofNat_lt, List.length_map, decide_true, decide_false, ne_eq, not_true_eq_false, not_false_eq_true, weaks_items, Int.lt_irrefl, hol, hxo, hwq, hyj, hj0, hjn, hm0, hmb, hmf, hqi, hqo, hjt, hd36, hws, hql, hxp, hlt] <;> rfl) ?_
              refine Run.cond (by simp only [go_sem, ↓reduceIte, Nat.reduceEqDiff, Nat.reduceLT, Nat.reduceLeDiff, Nat.reduceAdd, Int.natCast_nonneg, Int.ofNat_lt, List.length_map, decide_true, decide_false, ne_eq, not_true_eq_false, not_false_eq_true, weaks_items, Int.lt_irrefl, hol, hxo, hwq, hyj, hj0, hjn, hm0, hmb, hmf, hqi, hqo, hjt, hd36, hws, hql, hxp, hlt] <;> rfl) (fun hc5 => ?_) (fun hc5 => ?_)
              · cases hc5
              · have hc := hc5
                refine Run.skip ?_
                refine Run.region ?_
                refine RunO.all (by simp only [go_sem, ↓reduceIte, Nat.reduceEqDiff, Nat.reduceLT, Nat.reduceLeDiff, Nat.reduceAdd, Int.natCast_nonneg, Int.ofNat_lt, List.length_map, decide_true, decide_false, ne_eq, not_true_eq_false, not_false_eq_true, weaks_items, Int.lt_irrefl, hol, hxo, hwq, hyj, hj0, hjn, hm0, hmb, hmf, hqi, hqo, hjt, hd36, hws, hql, hxp, hlt] <;> rfl) ?_
                refine RunO.live' [0, 4, 6, 7, 42, 43, 44] (by simp only [go_sem, ↓reduceIte, Nat.reduceEqDiff, Nat.reduceLT, Nat.reduceLeDiff, Nat.reduceAdd, Int.natCast_nonneg, Int.ofNat_lt, List.length_map, decide_true, decide_false, ne_eq, not_true_eq_false, not_false_eq_true, weaks_items, Int.lt_irrefl, hol, hxo, hwq, hyj, hj0, hjn, hm0, hmb, hmf, hqi, hqo, hjt, hd36, hws, hql, hxp, hlt] <;> rfl) ?_
                refine Run.blk ?_
                refine Run.region ?_
                refine RunO.all (by simp only [go_sem, ↓reduceIte, Nat.reduceEqDiff, Nat.reduceLT, Nat.reduceLeDiff, Nat.reduceAdd, Int.natCast_nonneg, Int.ofNat_lt, List.length_map, decide_true, decide_false, ne_eq, not_true_eq_false, not_false_eq_true, weaks_items, Int.lt_irrefl, hol, hxo, hwq, hyj, hj0, hjn, hm0, hmb, hmf, hqi, hqo, hjt, hd36, hws, hql, hxp, hlt] <;> rfl) ?_
                refine RunO.live' [0, 4, 6, 7, 42, 43, 44] (by simp only [go_sem, ↓reduceIte, Nat.reduceEqDiff, Nat.reduceLT, Nat.reduceLeDiff, Nat.reduceAdd, Int.natCast_nonneg, Int.ofNat_lt, List.length_map, decide_true, decide_false, ne_eq, not_true_eq_false, not_false_eq_true, weaks_items, Int.lt_irrefl, hol, hxo, hwq, hyj, hj0, hjn, hm0, hmb, hmf, hqi, hqo, hjt, hd36, hws, hql, hxp, hlt] <;> rfl) ?_
                refine Run.lp ⟨⟨q + 1, m, rfl, by omega, by simp only [go_sem]; omega, ?_⟩, ?_⟩
                · rw [take_succ_at0 hqo, hxe]
                  simp only [go_sem, ↓reduceIte, seenP, List.map_append]
                · simp only [ivar, go_sem, ↓reduceIte, Nat.reduceEqDiff]
                  omega
          · have hc := hc4
            refine Run.exit ?_
            show Run _ _ _ _ _ _
            refine Run.seq ?_
            refine Run.region ?_
            refine RunO.callw (by simp only [go_sem, ↓reduceIte, Nat.reduceEqDiff, Nat.reduceLT, Nat.reduceLeDiff, Nat.reduceAdd, Int.natCast_nonneg, Int.ofNat_lt, List.length_map, decide_true, decide_false, ne_eq, not_true_eq_false, not_false_eq_true, weaks_items, Int.lt_irrefl, hol] <;> rfl) (by simp only [go_sem, ↓reduceIte, Nat.reduceEqDiff, Nat.reduceLT, Nat.reduceLeDiff, Nat.reduceAdd, Int.natCast_nonneg, Int.ofNat_lt, List.length_map, decide_true, decide_false, ne_eq, not_true_eq_false, not_false_eq_true, weaks_items, Int.lt_irrefl, hol] <;> rfl) (by simp only [go_sem, ↓reduceIte, Nat.reduceEqDiff, Nat.reduceLT, Nat.reduceLeDiff, Nat.reduceAdd, Int.natCast_nonneg, Int.ofNat_lt, List.length_map, decide_true, decide_false, ne_eq, not_true_eq_false, not_false_eq_true, weaks_items, Int.lt_irrefl, hol] <;> rfl) (by kernel_rfl) ((known_).mono ?_)
            rintro r13 s13 ⟨rfl, _, _⟩
            refine RunO.all (by simp only [go_sem, ↓reduceIte, Nat.reduceEqDiff, Nat.reduceLT, Nat.reduceLeDiff, Nat.reduceAdd, Int.natCast_nonneg, Int.ofNat_lt, List.length_map, decide_true, decide_false, ne_eq, not_true_eq_false, not_false_eq_true, weaks_items, Int.lt_irrefl, hol] <;> rfl) ?_
            refine RunO.live' [2] (by simp only [go_sem, ↓reduceIte, Nat.reduceEqDiff, Nat.reduceLT, Nat.reduceLeDiff, Nat.reduceAdd, Int.natCast_nonneg, Int.ofNat_lt, List.length_map, decide_true, decide_false, ne_eq, not_true_eq_false, not_false_eq_true, weaks_items, Int.lt_irrefl, hol] <;> rfl) ?_
            refine Run.ret ?_
            exact Ret.all (by simp only [Try.f5, go_sem] <;> rfl) rfl

end Go.Proofs
