import Derived.Test.YtegdcamfhldcoaaH3
import Derived.Test.YtegdcamfhldcoaaPmY
namespace Go.Proofs
open Go.PM
set_option maxHeartbeats 1000000
set_option linter.unusedSimpArgs false
set_option linter.unusedVariables false
theorem blk_set_self0 (s : St) (b : Blk) : (s.new b).blk s.nxt = some b := if_pos rfl

theorem dropKey {s : St} {kb : Nat} {key : Int} {x : Item} (hk : s.blk kb = some (.row 3 [.int .i64 key])) : ACalls Try.prog 24 [x.pv, .ptr kb 0 0] s (fun r s' => r = .bool (decide (x.key = key)) ∧ s' = s) := by
  refine ACalls.body Try.func24 rfl (by simp [Try.f24]) (by decide) fun hwf => ?_
  show Run _ _ [.code _] _ _ _
  have hlt := lt_of_blk hwf hk
  have hk0 : (kb = s.nxt) = False := eq_false (by omega)
  have hk1 : (s.nxt = kb) = False := eq_false (by omega)
  refine Run.seq ?_
  refine Run.region ?_
  refine RunO.all (by simp only [go_sem, ↓reduceIte, Nat.reduceEqDiff, Nat.reduceLT, Nat.reduceLeDiff, Nat.reduceAdd, Item.pv, hk, hk0, hk1] <;> rfl) ?_
  refine RunO.live' [1, 2] (by simp only [go_sem, ↓reduceIte, Nat.reduceEqDiff, Nat.reduceLT, Nat.reduceLeDiff, Nat.reduceAdd, Item.pv, hk, hk0, hk1] <;> rfl) ?_
  refine Run.seq ?_
  refine Run.region ?_
  refine RunO.all (by simp only [go_sem, ↓reduceIte, Nat.reduceEqDiff, Nat.reduceLT, Nat.reduceLeDiff, Nat.reduceAdd, Item.pv, hk, hk0, hk1] <;> rfl) ?_
  refine RunO.live' [3] (by simp only [go_sem, ↓reduceIte, Nat.reduceEqDiff, Nat.reduceLT, Nat.reduceLeDiff, Nat.reduceAdd, Item.pv, hk, hk0, hk1] <;> rfl) ?_
  refine Run.ret ?_
  refine Ret.pure (by simp only [Try.f24, go_sem]; rfl) rfl (by simp only [go_sem]) hwf (fun i hi => ?_) ⟨?_, rfl⟩
  · have h0 : ∀ n, (i = s.nxt + n) = False := fun n => eq_false (by omega)
    have h1 : (i = s.nxt) = False := eq_false (by omega)
    try simp only [go_sem, h0, h1]
  · rfl

theorem indexFunc {s : St} {L n kb : Nat} {zs : List Item} {key : Int} (hL : s.blk L = some (.row 37 (zs.map Item.pv))) (hn : n ≤ zs.length) (hsz : n < 1000000) (hk : s.blk kb = some (.row 3 [.int .i64 key])) :
    ACalls Try.prog 28 [.own L 0 n, .fn (.func 24) [] [.ptr kb 0 0]] s (fun r s' => s' = s ∧ ∃ k : Int, r = .int .i64 k ∧ (k = -1 ∧ (∀ j, j < n → (at0 zs j).key ≠ key) ∨ ∃ i : Nat, k = i ∧ i < n ∧ (at0 zs i).key = key ∧ ∀ j, j < i → (at0 zs j).key ≠ key)) := by
  refine ACalls.body Try.func28 rfl (by simp [Try.f28]) (by decide) fun hwf => ?_
  show Run _ _ [.code _] _ _ _
  refine Run.seq ?_
  refine Run.region ?_
  refine RunO.all (by simp only [go_sem, ↓reduceIte, Nat.reduceEqDiff, Nat.reduceLT, Nat.reduceLeDiff, Nat.reduceAdd, hL, Int.natCast_nonneg, Int.ofNat_lt, Nat.lt_add_one] <;> rfl) ?_
  refine RunO.live' [0, 1] (by simp only [go_sem, ↓reduceIte, Nat.reduceEqDiff, Nat.reduceLT, Nat.reduceLeDiff, Nat.reduceAdd, hL, Int.natCast_nonneg, Int.ofNat_lt, Nat.lt_add_one] <;> rfl) ?_
  refine Run.seq ?_
  refine Run.seq ?_
  refine Run.region ?_
  refine RunO.all (by simp only [go_sem, ↓reduceIte, Nat.reduceEqDiff, Nat.reduceLT, Nat.reduceLeDiff, Nat.reduceAdd, hL, Int.natCast_nonneg, Int.ofNat_lt, Nat.lt_add_one] <;> rfl) ?_
  refine RunO.live' [0, 1, 7, 8] (by simp only [go_sem, ↓reduceIte, Nat.reduceEqDiff, Nat.reduceLT, Nat.reduceLeDiff, Nat.reduceAdd, hL, Int.natCast_nonneg, Int.ofNat_lt, Nat.lt_add_one] <;> rfl) ?_
  refine Run.block ?_
  -- loop 0, live [0, 1, 7, 8]
  refine Run.loop (fun e s' => ∃ i : Nat, e = [(0, .own L 0 n), (1, .fn (.func 24) [] [.ptr kb 0 0]), (7, .int .i64 n), (8, .int .i64 i)] ∧ s' = s ∧ i ≤ n ∧ ∀ j, j < i → (at0 zs j).key ≠ key) (fun e s' => n - ivar e 8) ?_ ?_
  · exact ⟨0, rfl, rfl, by omega, fun j hj => by omega⟩
  rintro e s' ⟨i, rfl, hs, hi, hbe⟩
  subst s'
  refine Run.seq ?_
  refine Run.region ?_
  refine RunO.all (by simp only [go_sem, ↓reduceIte, Nat.reduceEqDiff, Nat.reduceLT, Nat.reduceLeDiff, Nat.reduceAdd, hL, Int.natCast_nonneg, Int.ofNat_lt, Nat.lt_add_one] <;> rfl) ?_
  refine RunO.live' [0, 1, 7, 8, 9] (by simp only [go_sem, ↓reduceIte, Nat.reduceEqDiff, Nat.reduceLT, Nat.reduceLeDiff, Nat.reduceAdd, hL, Int.natCast_nonneg, Int.ofNat_lt, Nat.lt_add_one] <;> rfl) ?_
  refine Run.seq ?_
  refine Run.cond (by simp only [go_sem, ↓reduceIte, Nat.reduceEqDiff, Nat.reduceLT, Nat.reduceLeDiff, Nat.reduceAdd, hL, Int.natCast_nonneg, Int.ofNat_lt, Nat.lt_add_one] <;> rfl) (fun hc0 => ?_) (fun hc0 => ?_)
  · have hc := hc0
    refine Run.skip ?_
    refine Run.seq ?_
    refine Run.block ?_
    refine Run.seq ?_
    have hin : i < n := by have := of_decide_eq_true hc0; omega
    have hx : (zs.map Item.pv)[i]? = some (.agg [.int .i64 (at0 zs i).tick, .int .i64 (at0 zs i).order, .int .i64 (at0 zs i).key]) := map_at0 (by omega)
    have hin2 := hin
    refine Run.region ?_
    refine RunO.all (by simp only [go_sem, ↓reduceIte, Nat.reduceEqDiff, Nat.reduceLT, Nat.reduceLeDiff, Nat.reduceAdd, hL, Int.natCast_nonneg, Int.ofNat_lt, Nat.lt_add_one, hin2, hx] <;> rfl) ?_
    refine RunO.live' [0, 1, 5, 7, 8] (by simp only [go_sem, ↓reduceIte, Nat.reduceEqDiff, Nat.reduceLT, Nat.reduceLeDiff, Nat.reduceAdd, hL, Int.natCast_nonneg, Int.ofNat_lt, Nat.lt_add_one, hin2, hx] <;> rfl) ?_
    refine Run.seq ?_
    refine Run.region ?_
    refine RunO.ops (pre := [_, _, _, _, _]) (by simp only [go_sem, ↓reduceIte, Nat.reduceEqDiff, Nat.reduceLT, Nat.reduceLeDiff, Nat.reduceAdd, hL, Int.natCast_nonneg, Int.ofNat_lt, Nat.lt_add_one, hin2, hx] <;> rfl) ?_
    refine RunO.callw (by simp only [go_sem, ↓reduceIte, Nat.reduceEqDiff, Nat.reduceLT, Nat.reduceLeDiff, Nat.reduceAdd, hL, Int.natCast_nonneg, Int.ofNat_lt, Nat.lt_add_one, hin2, hx] <;> rfl) (by simp only [go_sem, ↓reduceIte, Nat.reduceEqDiff, Nat.reduceLT, Nat.reduceLeDiff, Nat.reduceAdd, hL, Int.natCast_nonneg, Int.ofNat_lt, Nat.lt_add_one, hin2, hx] <;> rfl) (by simp only [go_sem, ↓reduceIte, Nat.reduceEqDiff, Nat.reduceLT, Nat.reduceLeDiff, Nat.reduceAdd, hL, Int.natCast_nonneg, Int.ofNat_lt, Nat.lt_add_one, hin2, hx] <;> rfl) (by kernel_rfl) ((dropKey (x := at0 zs i) hk).mono ?_)
    rintro r s' ⟨rfl, hs⟩
    subst s'
    refine RunO.live' [0, 1, 5, 7, 8, 16] (by simp only [go_sem, ↓reduceIte, Nat.reduceEqDiff, Nat.reduceLT, Nat.reduceLeDiff, Nat.reduceAdd, hL, Int.natCast_nonneg, Int.ofNat_lt, Nat.lt_add_one, hin2, hx] <;> rfl) ?_
    refine Run.cond (by simp only [go_sem, ↓reduceIte, Nat.reduceEqDiff, Nat.reduceLT, Nat.reduceLeDiff, Nat.reduceAdd, hL, Int.natCast_nonneg, Int.ofNat_lt, Nat.lt_add_one, hin2, hx] <;> rfl) (fun hc1 => ?_) (fun hc1 => ?_)
    · have hc := hc1
      refine Run.seq ?_
      refine Run.region ?_
      refine RunO.all (by simp only [go_sem, ↓reduceIte, Nat.reduceEqDiff, Nat.reduceLT, Nat.reduceLeDiff, Nat.reduceAdd, hL, Int.natCast_nonneg, Int.ofNat_lt, Nat.lt_add_one, hin2, hx] <;> rfl) ?_
      refine RunO.live' [4] (by simp only [go_sem, ↓reduceIte, Nat.reduceEqDiff, Nat.reduceLT, Nat.reduceLeDiff, Nat.reduceAdd, hL, Int.natCast_nonneg, Int.ofNat_lt, Nat.lt_add_one, hin2, hx] <;> rfl) ?_
      refine Run.ret ?_
      first
        | exact Ret.all (by simp only [Try.f28, go_sem] <;> rfl) ⟨rfl, _, rfl, .inr ⟨i, rfl, by omega, of_decide_eq_true hc1, hbe⟩⟩
        | exact Ret.all (by simp only [Try.f28, go_sem] <;> rfl) ⟨rfl, _, rfl, .inl ⟨rfl, fun j hj => hbe j (by have := of_decide_eq_false hc0; omega)⟩⟩
    · have hc := hc1
      refine Run.skip ?_
      refine Run.blk ?_
      refine Run.region ?_
      refine RunO.all (by simp only [go_sem, ↓reduceIte, Nat.reduceEqDiff, Nat.reduceLT, Nat.reduceLeDiff, Nat.reduceAdd, hL, Int.natCast_nonneg, Int.ofNat_lt, Nat.lt_add_one, hin2, hx] <;> rfl) ?_
      refine RunO.live' [0, 1, 7, 8] (by simp only [go_sem, ↓reduceIte, Nat.reduceEqDiff, Nat.reduceLT, Nat.reduceLeDiff, Nat.reduceAdd, hL, Int.natCast_nonneg, Int.ofNat_lt, Nat.lt_add_one, hin2, hx] <;> rfl) ?_
      refine Run.lp ⟨⟨i + 1, by rw [wrap_i64 (by omega)]; rfl, rfl, by omega, fun j hj => ?_⟩, ?_⟩
      · by_cases hji : j = i
        · rw [hji]; exact of_decide_eq_false hc1
        · exact hbe j (by omega)
      · simp only [ivar, go_sem, ↓reduceIte, Nat.reduceEqDiff]
        rw [wrap_i64 (by omega)]
        omega
  · have hc := hc0
    refine Run.exit ?_
    show Run _ _ _ _ _ _
    refine Run.seq ?_
    refine Run.region ?_
    refine RunO.all (by simp only [go_sem, ↓reduceIte, Nat.reduceEqDiff, Nat.reduceLT, Nat.reduceLeDiff, Nat.reduceAdd, hL, Int.natCast_nonneg, Int.ofNat_lt, Nat.lt_add_one] <;> rfl) ?_
    refine RunO.live' [4] (by simp only [go_sem, ↓reduceIte, Nat.reduceEqDiff, Nat.reduceLT, Nat.reduceLeDiff, Nat.reduceAdd, hL, Int.natCast_nonneg, Int.ofNat_lt, Nat.lt_add_one] <;> rfl) ?_
    refine Run.ret ?_
    first
      | exact Ret.all (by simp only [Try.f28, go_sem] <;> rfl) ⟨rfl, _, rfl, .inr ⟨i, rfl, by omega, of_decide_eq_true hc1, hbe⟩⟩
      | exact Ret.all (by simp only [Try.f28, go_sem] <;> rfl) ⟨rfl, _, rfl, .inl ⟨rfl, fun j hj => hbe j (by have := of_decide_eq_false hc0; omega)⟩⟩

theorem indexFunc_nil {s : St} {f : PV} : ACalls Try.prog 28 [.sl .nil [], f] s (fun r s' => r = .int .i64 (-1) ∧ s' = s) := by
  refine ACalls.body Try.func28 rfl (by simp [Try.f28]) (by decide) fun hwf => ?_
  show Run _ _ [.code _] _ _ _
  refine Run.seq ?_
  refine Run.region ?_
  refine RunO.all (by simp only [go_sem, ↓reduceIte, Nat.reduceEqDiff, Nat.reduceLT, Nat.reduceLeDiff, Nat.reduceAdd] <;> rfl) ?_
  refine RunO.live' [0, 1] (by simp only [go_sem, ↓reduceIte, Nat.reduceEqDiff, Nat.reduceLT, Nat.reduceLeDiff, Nat.reduceAdd] <;> rfl) ?_
  refine Run.seq ?_
  refine Run.seq ?_
  refine Run.region ?_
  refine RunO.all (by simp only [go_sem, ↓reduceIte, Nat.reduceEqDiff, Nat.reduceLT, Nat.reduceLeDiff, Nat.reduceAdd] <;> rfl) ?_
  refine RunO.live' [0, 1, 7, 8] (by simp only [go_sem, ↓reduceIte, Nat.reduceEqDiff, Nat.reduceLT, Nat.reduceLeDiff, Nat.reduceAdd] <;> rfl) ?_
  refine Run.block ?_
  -- loop 0, live [0, 1, 7, 8]
  refine Run.loop (fun e s' => e = [(0, .sl .nil []), (1, f), (7, .int .i64 0), (8, .int .i64 0)] ∧ s' = s) (fun e s' => 0) ?_ ?_
  · exact ⟨rfl, rfl⟩
  rintro e s' ⟨rfl, hs⟩
  subst s'
  refine Run.seq ?_
  refine Run.region ?_
  refine RunO.all (by simp only [go_sem, ↓reduceIte, Nat.reduceEqDiff, Nat.reduceLT, Nat.reduceLeDiff, Nat.reduceAdd] <;> rfl) ?_
  refine RunO.live' [0, 1, 7, 8, 9] (by simp only [go_sem, ↓reduceIte, Nat.reduceEqDiff, Nat.reduceLT, Nat.reduceLeDiff, Nat.reduceAdd] <;> rfl) ?_
  refine Run.seq ?_
  refine Run.cond (by simp only [go_sem, ↓reduceIte, Nat.reduceEqDiff, Nat.reduceLT, Nat.reduceLeDiff, Nat.reduceAdd] <;> rfl) (fun hc0 => ?_) (fun hc0 => ?_)
  · cases hc0
  · have hc := hc0
    refine Run.exit ?_
    show Run _ _ _ _ _ _
    refine Run.seq ?_
    refine Run.region ?_
    refine RunO.all (by simp only [go_sem, ↓reduceIte, Nat.reduceEqDiff, Nat.reduceLT, Nat.reduceLeDiff, Nat.reduceAdd] <;> rfl) ?_
    refine RunO.live' [4] (by simp only [go_sem, ↓reduceIte, Nat.reduceEqDiff, Nat.reduceLT, Nat.reduceLeDiff, Nat.reduceAdd] <;> rfl) ?_
    refine Run.ret ?_
    refine Ret.pure (by simp only [Try.f28, go_sem]; rfl) rfl (by simp only [go_sem]) hwf (fun i hi => ?_) ⟨?_, rfl⟩
    · have h0 : ∀ n, (i = s.nxt + n) = False := fun n => eq_false (by omega)
      have h1 : (i = s.nxt) = False := eq_false (by omega)
      try simp only [go_sem, h0, h1]
    · simp [PV.weak, go_sem]


def keepF (key : Int) (l : List Item) : List Item := l.filter (fun a => decide (a.key ≠ key))

theorem keepF_snoc (key : Int) (l : List Item) (x : Item) : keepF key (l ++ [x]) = if x.key = key then keepF key l else keepF key l ++ [x] := by
  unfold keepF
  rw [List.filter_append]
  by_cases h : x.key = key <;> simp [h]

theorem take_set_succ {l : List Item} {m : Nat} {x : Item} (h : m < l.length) : (l.set m x).take (m + 1) = l.take m ++ [x] := by
  rw [take_succ_at0 (by simpa using h), List.take_set_of_le (Nat.le_refl m)]
  unfold at0
  simp [h]

theorem at0_set_ne {l : List Item} {m j : Nat} {x : Item} (h : m ≠ j) : at0 (l.set m x) j = at0 l j := by
  unfold at0
  rw [List.getElem?_set_ne h]

theorem keepF_none {key : Int} {l : List Item} {i : Nat} (hl : i ≤ l.length) (h : ∀ j, j < i → (at0 l j).key ≠ key) : keepF key (l.take i) = l.take i := by
  unfold keepF
  rw [List.filter_eq_self]
  intro a ha
  obtain ⟨k, hk, rfl⟩ := mem_take_at0 ha
  simpa using h k hk

theorem delete_own {s : St} {L n kb : Nat} {zs : List Item} {key : Int} (hL : s.blk L = some (.row 37 (zs.map Item.pv))) (hn : n ≤ zs.length) (hsz : n < 1000000) (hk : s.blk kb = some (.row 3 [.int .i64 key])) :
    ACalls Try.prog 23 [.own L 0 n, .fn (.func 24) [] [.ptr kb 0 0]] s (fun r s' => ∃ (m : Nat) (ys : List Item), r = .own L 0 m ∧ s'.blk L = some (.row 37 (ys.map Item.pv)) ∧ m ≤ ys.length ∧ m ≤ n ∧ ys.take m = keepF key (zs.take n) ∧ s.nxt ≤ s'.nxt ∧ ∀ i, i < s.nxt → i ≠ L → s'.blk i = s.blk i) := by
  refine ACalls.body Try.func23 rfl (by simp [Try.f23]) (by decide) fun hwf => ?_
  show Run _ _ [.code _] _ _ _
  have hLt := lt_of_blk hwf hL
  have hkt := lt_of_blk hwf hk
  have hkL : kb ≠ L := by rintro rfl; rw [hL] at hk; cases hk
  refine Run.seq ?_
  refine Run.region ?_
  refine RunO.all (by simp only [go_sem, ↓reduceIte, Nat.reduceEqDiff, Nat.reduceLT, Nat.reduceLeDiff, Nat.reduceAdd, Int.natCast_nonneg, Int.ofNat_lt, Nat.lt_add_one, Nat.le_refl, Int.le_refl] <;> rfl) ?_
  refine RunO.live' [0, 1] (by simp only [go_sem, ↓reduceIte, Nat.reduceEqDiff, Nat.reduceLT, Nat.reduceLeDiff, Nat.reduceAdd, Int.natCast_nonneg, Int.ofNat_lt, Nat.lt_add_one, Nat.le_refl, Int.le_refl] <;> rfl) ?_
  refine Run.seq ?_
  refine Run.region ?_
  refine RunO.ops (pre := [_, _]) (by simp only [go_sem, ↓reduceIte, Nat.reduceEqDiff, Nat.reduceLT, Nat.reduceLeDiff, Nat.reduceAdd, Int.natCast_nonneg, Int.ofNat_lt, Nat.lt_add_one, Nat.le_refl, Int.le_refl] <;> rfl) ?_
  refine RunO.callw (by simp only [go_sem, ↓reduceIte, Nat.reduceEqDiff, Nat.reduceLT, Nat.reduceLeDiff, Nat.reduceAdd, Int.natCast_nonneg, Int.ofNat_lt, Nat.lt_add_one, Nat.le_refl, Int.le_refl] <;> rfl) (by simp only [go_sem, ↓reduceIte, Nat.reduceEqDiff, Nat.reduceLT, Nat.reduceLeDiff, Nat.reduceAdd, Int.natCast_nonneg, Int.ofNat_lt, Nat.lt_add_one, Nat.le_refl, Int.le_refl] <;> rfl) (by simp only [go_sem, ↓reduceIte, Nat.reduceEqDiff, Nat.reduceLT, Nat.reduceLeDiff, Nat.reduceAdd, Int.natCast_nonneg, Int.ofNat_lt, Nat.lt_add_one, Nat.le_refl, Int.le_refl] <;> rfl) (by kernel_rfl) ((indexFunc hL hn hsz hk).mono ?_)
  rintro r s' ⟨hs, k0, rfl, hk0⟩
  subst s'
  refine RunO.all (by simp only [go_sem, ↓reduceIte, Nat.reduceEqDiff, Nat.reduceLT, Nat.reduceLeDiff, Nat.reduceAdd, Int.natCast_nonneg, Int.ofNat_lt, Nat.lt_add_one, Nat.le_refl, Int.le_refl] <;> rfl) ?_
  refine RunO.live' [0, 1, 5] (by simp only [go_sem, ↓reduceIte, Nat.reduceEqDiff, Nat.reduceLT, Nat.reduceLeDiff, Nat.reduceAdd, Int.natCast_nonneg, Int.ofNat_lt, Nat.lt_add_one, Nat.le_refl, Int.le_refl] <;> rfl) ?_
  refine Run.seq ?_
  refine Run.seq ?_
  refine Run.region ?_
  refine RunO.all (by simp only [go_sem, ↓reduceIte, Nat.reduceEqDiff, Nat.reduceLT, Nat.reduceLeDiff, Nat.reduceAdd, Int.natCast_nonneg, Int.ofNat_lt, Nat.lt_add_one, Nat.le_refl, Int.le_refl] <;> rfl) ?_
  refine RunO.live' [0, 1, 5, 12] (by simp only [go_sem, ↓reduceIte, Nat.reduceEqDiff, Nat.reduceLT, Nat.reduceLeDiff, Nat.reduceAdd, Int.natCast_nonneg, Int.ofNat_lt, Nat.lt_add_one, Nat.le_refl, Int.le_refl] <;> rfl) ?_
  refine Run.cond (by simp only [go_sem, ↓reduceIte, Nat.reduceEqDiff, Nat.reduceLT, Nat.reduceLeDiff, Nat.reduceAdd, Int.natCast_nonneg, Int.ofNat_lt, Nat.lt_add_one, Nat.le_refl, Int.le_refl] <;> rfl) (fun hc0 => ?_) (fun hc0 => ?_)
  · have hc := hc0
    refine Run.seq ?_
    refine Run.region ?_
    refine RunO.all (by simp only [go_sem, ↓reduceIte, Nat.reduceEqDiff, Nat.reduceLT, Nat.reduceLeDiff, Nat.reduceAdd, Int.natCast_nonneg, Int.ofNat_lt, Nat.lt_add_one, Nat.le_refl, Int.le_refl] <;> rfl) ?_
    refine RunO.live' [4] (by simp only [go_sem, ↓reduceIte, Nat.reduceEqDiff, Nat.reduceLT, Nat.reduceLeDiff, Nat.reduceAdd, Int.natCast_nonneg, Int.ofNat_lt, Nat.lt_add_one, Nat.le_refl, Int.le_refl] <;> rfl) ?_
    refine Run.ret ?_
    first
      | exact Ret.all (by simp only [Try.f23, go_sem] <;> rfl) ⟨m, _, rfl, hb3, by simp; omega, by omega, by rw [List.append_assoc, List.take_append_of_le_length (by simp; omega), List.take_take, Nat.min_self, htk, hin3], hnx, fun j h1 h2 => by rw [blk_set, if_neg h2]; exact hfr j h1 h2⟩
      | (have hk1 : ∀ j, j < n → (at0 zs j).key ≠ key := by
           rcases hk0 with ⟨_, h1⟩ | ⟨i, h1, _⟩
           · exact h1
           · have := of_decide_eq_true hc0
             omega
         exact Ret.all (by simp only [Try.f23, go_sem] <;> rfl) ⟨n, zs, rfl, hL, hn, Nat.le_refl _, (keepF_none hn hk1).symm, Nat.le_refl _, fun _ _ _ => rfl⟩)
  · have hc := hc0
    refine Run.skip ?_
    refine Run.seq ?_
    refine Run.seq ?_
    obtain ⟨i0, rfl, hi0, hi1, hi2⟩ : ∃ i : Nat, k0 = i ∧ i < n ∧ (at0 zs i).key = key ∧ ∀ j, j < i → (at0 zs j).key ≠ key := by
      rcases hk0 with ⟨h1, _⟩ | h1
      · exact absurd h1 (by simpa using hc0)
      · exact h1
    have hw0 : IntKind.i64.wrap ((i0 : Int) + 1) = ((i0 + 1 : Nat) : Int) := by rw [wrap_i64 (by omega)]; omega
    refine Run.region ?_
    refine RunO.all (by simp only [go_sem, ↓reduceIte, Nat.reduceEqDiff, Nat.reduceLT, Nat.reduceLeDiff, Nat.reduceAdd, Int.natCast_nonneg, Int.ofNat_lt, Nat.lt_add_one, Nat.le_refl, Int.le_refl, hw0] <;> rfl) ?_
    refine RunO.live' [0, 1, 5, 6] (by simp only [go_sem, ↓reduceIte, Nat.reduceEqDiff, Nat.reduceLT, Nat.reduceLeDiff, Nat.reduceAdd, Int.natCast_nonneg, Int.ofNat_lt, Nat.lt_add_one, Nat.le_refl, Int.le_refl, hw0] <;> rfl) ?_
    refine Run.block ?_
    -- loop 0, live [0, 1, 5, 6]
    refine Run.loop (fun e s' => ∃ (ys : List Item) (m i : Nat), e = [(0, .own L 0 n), (1, .fn (.func 24) [] [.ptr kb 0 0]), (5, .int .i64 m), (6, .int .i64 i)] ∧ s'.blk L = some (.row 37 (ys.map Item.pv)) ∧ m < i ∧ i ≤ n ∧ ys.length = zs.length ∧ ys.take m = keepF key (zs.take i) ∧ (∀ j, i ≤ j → at0 ys j = at0 zs j) ∧ s'.blk kb = some (.row 3 [.int .i64 key]) ∧ s.nxt ≤ s'.nxt ∧ ∀ i, i < s.nxt → i ≠ L → s'.blk i = s.blk i) (fun e s' => n - ivar e 6) ?_ ?_
    · refine ⟨zs, i0, i0 + 1, rfl, hL, by omega, by omega, rfl, ?_, fun _ _ => rfl, hk, Nat.le_refl _, fun _ _ _ => rfl⟩
      rw [take_succ_at0 (by omega), keepF_snoc, if_pos hi1, keepF_none (by omega) hi2]
    rintro e s1 ⟨ys, m, i, rfl, hb, hmi, hin1, hyl, htk, hrest, hkb, hnx, hfr⟩
    refine Run.seq ?_
    refine Run.seq ?_
    refine Run.region ?_
    refine RunO.all (by simp only [go_sem, ↓reduceIte, Nat.reduceEqDiff, Nat.reduceLT, Nat.reduceLeDiff, Nat.reduceAdd, Int.natCast_nonneg, Int.ofNat_lt, Nat.lt_add_one, Nat.le_refl, Int.le_refl, hw0] <;> rfl) ?_
    refine RunO.live' [0, 1, 5, 6, 19] (by simp only [go_sem, ↓reduceIte, Nat.reduceEqDiff, Nat.reduceLT, Nat.reduceLeDiff, Nat.reduceAdd, Int.natCast_nonneg, Int.ofNat_lt, Nat.lt_add_one, Nat.le_refl, Int.le_refl, hw0] <;> rfl) ?_
    refine Run.cond (by simp only [go_sem, ↓reduceIte, Nat.reduceEqDiff, Nat.reduceLT, Nat.reduceLeDiff, Nat.reduceAdd, Int.natCast_nonneg, Int.ofNat_lt, Nat.lt_add_one, Nat.le_refl, Int.le_refl, hw0] <;> rfl) (fun hc1 => ?_) (fun hc1 => ?_)
    · have hc := hc1
      refine Run.skip ?_
      refine Run.seq ?_
      refine Run.block ?_
      refine Run.seq ?_
      have hin : i < n := by have := of_decide_eq_true hc1; omega
      have hx : (ys.map Item.pv)[i]? = some (.agg [.int .i64 (at0 ys i).tick, .int .i64 (at0 ys i).order, .int .i64 (at0 ys i).key]) := map_at0 (by omega)
      have hxm : (ys.map Item.pv)[m]? = some (.agg [.int .i64 (at0 ys m).tick, .int .i64 (at0 ys m).order, .int .i64 (at0 ys m).key]) := map_at0 (by omega)
      have hin2 := hin
      have hmn : m < n := by omega
      have hl0 : (L = s1.nxt) = False := eq_false (by omega)
      have hk2 : (s1.nxt = L) = False := eq_false (by omega)
      have hw1 : IntKind.i64.wrap ((i : Int) + 1) = ((i + 1 : Nat) : Int) := by rw [wrap_i64 (by omega)]; omega
      have hw2 : IntKind.i64.wrap ((m : Int) + 1) = ((m + 1 : Nat) : Int) := by rw [wrap_i64 (by omega)]; omega
      refine Run.region ?_
      refine RunO.all (by simp only [go_sem, ↓reduceIte, Nat.reduceEqDiff, Nat.reduceLT, Nat.reduceLeDiff, Nat.reduceAdd, Int.natCast_nonneg, Int.ofNat_lt, Nat.lt_add_one, Nat.le_refl, Int.le_refl, hw0, hin2, hx, hxm, hmn, hl0, hk2, hw1, hw2, hb] <;> rfl) ?_
      refine RunO.live' [0, 1, 5, 6, 7] (by simp only [go_sem, ↓reduceIte, Nat.reduceEqDiff, Nat.reduceLT, Nat.reduceLeDiff, Nat.reduceAdd, Int.natCast_nonneg, Int.ofNat_lt, Nat.lt_add_one, Nat.le_refl, Int.le_refl, hw0, hin2, hx, hxm, hmn, hl0, hk2, hw1, hw2, hb] <;> rfl) ?_
      refine Run.seq ?_
      refine Run.region ?_
      refine RunO.ops (pre := [_, _]) (by simp only [go_sem, ↓reduceIte, Nat.reduceEqDiff, Nat.reduceLT, Nat.reduceLeDiff, Nat.reduceAdd, Int.natCast_nonneg, Int.ofNat_lt, Nat.lt_add_one, Nat.le_refl, Int.le_refl, hw0, hin2, hx, hxm, hmn, hl0, hk2, hw1, hw2, hb] <;> rfl) ?_
      refine RunO.callw (by simp only [go_sem, ↓reduceIte, Nat.reduceEqDiff, Nat.reduceLT, Nat.reduceLeDiff, Nat.reduceAdd, Int.natCast_nonneg, Int.ofNat_lt, Nat.lt_add_one, Nat.le_refl, Int.le_refl, hw0, hin2, hx, hxm, hmn, hl0, hk2, hw1, hw2, hb] <;> rfl) (by simp only [go_sem, ↓reduceIte, Nat.reduceEqDiff, Nat.reduceLT, Nat.reduceLeDiff, Nat.reduceAdd, Int.natCast_nonneg, Int.ofNat_lt, Nat.lt_add_one, Nat.le_refl, Int.le_refl, hw0, hin2, hx, hxm, hmn, hl0, hk2, hw1, hw2, hb] <;> rfl) (by simp only [go_sem, ↓reduceIte, Nat.reduceEqDiff, Nat.reduceLT, Nat.reduceLeDiff, Nat.reduceAdd, Int.natCast_nonneg, Int.ofNat_lt, Nat.lt_add_one, Nat.le_refl, Int.le_refl, hw0, hin2, hx, hxm, hmn, hl0, hk2, hw1, hw2, hb] <;> rfl) (by kernel_rfl) ((dropKey (x := at0 ys i) (by rw [blk_new, if_neg (by omega)]; exact hkb)).mono ?_)
      rintro r s' ⟨rfl, hs⟩
      subst s'
      refine RunO.all (by simp only [go_sem, ↓reduceIte, Nat.reduceEqDiff, Nat.reduceLT, Nat.reduceLeDiff, Nat.reduceAdd, Int.natCast_nonneg, Int.ofNat_lt, Nat.lt_add_one, Nat.le_refl, Int.le_refl, hw0, hin2, hx, hxm, hmn, hl0, hk2, hw1, hw2, hb] <;> rfl) ?_
      refine RunO.live' [0, 1, 5, 6, 7, 29] (by simp only [go_sem, ↓reduceIte, Nat.reduceEqDiff, Nat.reduceLT, Nat.reduceLeDiff, Nat.reduceAdd, Int.natCast_nonneg, Int.ofNat_lt, Nat.lt_add_one, Nat.le_refl, Int.le_refl, hw0, hin2, hx, hxm, hmn, hl0, hk2, hw1, hw2, hb] <;> rfl) ?_
      refine Run.cond (by simp only [go_sem, ↓reduceIte, Nat.reduceEqDiff, Nat.reduceLT, Nat.reduceLeDiff, Nat.reduceAdd, Int.natCast_nonneg, Int.ofNat_lt, Nat.lt_add_one, Nat.le_refl, Int.le_refl, hw0, hin2, hx, hxm, hmn, hl0, hk2, hw1, hw2, hb] <;> rfl) (fun hc2 => ?_) (fun hc2 => ?_)
      · have hc := hc2
        refine Run.seq ?_
        refine Run.region ?_
        refine RunO.all (by simp only [go_sem, ↓reduceIte, Nat.reduceEqDiff, Nat.reduceLT, Nat.reduceLeDiff, Nat.reduceAdd, Int.natCast_nonneg, Int.ofNat_lt, Nat.lt_add_one, Nat.le_refl, Int.le_refl, hw0, hin2, hx, hxm, hmn, hl0, hk2, hw1, hw2, hb] <;> rfl) ?_
        refine RunO.live' [0, 1, 5, 6] (by simp only [go_sem, ↓reduceIte, Nat.reduceEqDiff, Nat.reduceLT, Nat.reduceLeDiff, Nat.reduceAdd, Int.natCast_nonneg, Int.ofNat_lt, Nat.lt_add_one, Nat.le_refl, Int.le_refl, hw0, hin2, hx, hxm, hmn, hl0, hk2, hw1, hw2, hb] <;> rfl) ?_
        refine Run.region ?_
        refine RunO.all (by simp only [go_sem, ↓reduceIte, Nat.reduceEqDiff, Nat.reduceLT, Nat.reduceLeDiff, Nat.reduceAdd, Int.natCast_nonneg, Int.ofNat_lt, Nat.lt_add_one, Nat.le_refl, Int.le_refl, hw0, hin2, hx, hxm, hmn, hl0, hk2, hw1, hw2, hb] <;> rfl) ?_
        refine RunO.live' [0, 1, 5, 6] (by simp only [go_sem, ↓reduceIte, Nat.reduceEqDiff, Nat.reduceLT, Nat.reduceLeDiff, Nat.reduceAdd, Int.natCast_nonneg, Int.ofNat_lt, Nat.lt_add_one, Nat.le_refl, Int.le_refl, hw0, hin2, hx, hxm, hmn, hl0, hk2, hw1, hw2, hb] <;> rfl) ?_
        refine Run.blk ?_
        refine Run.region ?_
        refine RunO.all (by simp only [go_sem, ↓reduceIte, Nat.reduceEqDiff, Nat.reduceLT, Nat.reduceLeDiff, Nat.reduceAdd, Int.natCast_nonneg, Int.ofNat_lt, Nat.lt_add_one, Nat.le_refl, Int.le_refl, hw0, hin2, hx, hxm, hmn, hl0, hk2, hw1, hw2, hb] <;> rfl) ?_
        refine RunO.live' [0, 1, 5, 6] (by simp only [go_sem, ↓reduceIte, Nat.reduceEqDiff, Nat.reduceLT, Nat.reduceLeDiff, Nat.reduceAdd, Int.natCast_nonneg, Int.ofNat_lt, Nat.lt_add_one, Nat.le_refl, Int.le_refl, hw0, hin2, hx, hxm, hmn, hl0, hk2, hw1, hw2, hb] <;> rfl) ?_
        have hxi := hrest i (Nat.le_refl _)
        first
          | refine Run.lp ⟨⟨ys.set m (at0 ys i), m + 1, i + 1, rfl, ?_, by omega, by omega, by simpa using hyl, ?_, fun j hj => ?_, ?_, ?_, fun j h1 h2 => ?_⟩, ?_⟩
            · rw [blk_set_self, List.map_set]; rfl
            · rw [take_set_succ (by omega), take_succ_at0 (by omega), keepF_snoc, if_neg (by rw [← hxi]; simpa using hc2), htk, hxi]
            · rw [at0_set_ne (by omega)]; exact hrest j (by omega)
            · rw [blk_set, if_neg hkL, blk_new, if_neg (by omega)]; exact hkb
            · simp only [go_sem]; omega
            · rw [blk_set, if_neg h2, blk_new, if_neg (by omega)]; exact hfr j h1 h2
            · simp only [ivar, go_sem, ↓reduceIte, Nat.reduceEqDiff]
              omega
          | refine Run.lp ⟨⟨ys, m, i + 1, rfl, ?_, by omega, by omega, hyl, ?_, fun j hj => hrest j (by omega), ?_, ?_, fun j h1 h2 => ?_⟩, ?_⟩
            · rw [blk_new, if_neg (by omega)]; exact hb
            · rw [take_succ_at0 (l := zs) (by omega), keepF_snoc, if_pos (by rw [← hxi]; simpa using hc2), htk]
            · rw [blk_new, if_neg (by omega)]; exact hkb
            · simp only [go_sem]; omega
            · rw [blk_new, if_neg (by omega)]; exact hfr j h1 h2
            · simp only [ivar, go_sem, ↓reduceIte, Nat.reduceEqDiff]
              omega
      · have hc := hc2
        refine Run.skip ?_
        refine Run.blk ?_
        refine Run.region ?_
        refine RunO.all (by simp only [go_sem, ↓reduceIte, Nat.reduceEqDiff, Nat.reduceLT, Nat.reduceLeDiff, Nat.reduceAdd, Int.natCast_nonneg, Int.ofNat_lt, Nat.lt_add_one, Nat.le_refl, Int.le_refl, hw0, hin2, hx, hxm, hmn, hl0, hk2, hw1, hw2, hb] <;> rfl) ?_
        refine RunO.live' [0, 1, 5, 6] (by simp only [go_sem, ↓reduceIte, Nat.reduceEqDiff, Nat.reduceLT, Nat.reduceLeDiff, Nat.reduceAdd, Int.natCast_nonneg, Int.ofNat_lt, Nat.lt_add_one, Nat.le_refl, Int.le_refl, hw0, hin2, hx, hxm, hmn, hl0, hk2, hw1, hw2, hb] <;> rfl) ?_
        have hxi := hrest i (Nat.le_refl _)
        first
          | refine Run.lp ⟨⟨ys.set m (at0 ys i), m + 1, i + 1, rfl, ?_, by omega, by omega, by simpa using hyl, ?_, fun j hj => ?_, ?_, ?_, fun j h1 h2 => ?_⟩, ?_⟩
            · rw [blk_set_self, List.map_set]; rfl
            · rw [take_set_succ (by omega), take_succ_at0 (by omega), keepF_snoc, if_neg (by rw [← hxi]; simpa using hc2), htk, hxi]
            · rw [at0_set_ne (by omega)]; exact hrest j (by omega)
            · rw [blk_set, if_neg hkL, blk_new, if_neg (by omega)]; exact hkb
            · simp only [go_sem]; omega
            · rw [blk_set, if_neg h2, blk_new, if_neg (by omega)]; exact hfr j h1 h2
            · simp only [ivar, go_sem, ↓reduceIte, Nat.reduceEqDiff]
              omega
          | refine Run.lp ⟨⟨ys, m, i + 1, rfl, ?_, by omega, by omega, hyl, ?_, fun j hj => hrest j (by omega), ?_, ?_, fun j h1 h2 => ?_⟩, ?_⟩
            · rw [blk_new, if_neg (by omega)]; exact hb
            · rw [take_succ_at0 (l := zs) (by omega), keepF_snoc, if_pos (by rw [← hxi]; simpa using hc2), htk]
            · rw [blk_new, if_neg (by omega)]; exact hkb
            · simp only [go_sem]; omega
            · rw [blk_new, if_neg (by omega)]; exact hfr j h1 h2
            · simp only [ivar, go_sem, ↓reduceIte, Nat.reduceEqDiff]
              omega
    · have hc := hc1
      refine Run.exit ?_
      show Run _ _ _ _ _ _
      refine Run.seq ?_
      have hmn2 : ((m : Int) ≤ (n : Int)) = True := eq_true (by omega)
      have hin3 : i = n := by have := of_decide_eq_false hc1; omega
      have hsl : (if ((m : Nat) : Int) = 0 then some (PV.own L 0 n) else if ((m : Nat) : Int) = (n : Int) then some (PV.sl .any []) else some (PV.own L m ((n : Int) - m).toNat)) = some (PV.own L m (n - m)) := by
        split
        · obtain rfl : m = 0 := by omega
          rfl
        · rw [if_neg (by omega)]
          congr 2
          omega
      refine Run.region ?_
      refine RunO.ops (pre := [_, _, _]) (by simp only [go_sem, ↓reduceIte, Nat.reduceEqDiff, Nat.reduceLT, Nat.reduceLeDiff, Nat.reduceAdd, Int.natCast_nonneg, Int.ofNat_lt, Nat.lt_add_one, Nat.le_refl, Int.le_refl, hw0, hb, hmn2, hsl] <;> rfl) ?_
      refine RunO.clear (s' := s1.set L (some (.row 37 ((ys.take m ++ List.replicate (n - m) (⟨0, 0, 0⟩ : Item) ++ ys.drop n).map Item.pv)))) (by simp only [go_sem, ↓reduceIte, Nat.reduceEqDiff, Nat.reduceLT, Nat.reduceLeDiff, Nat.reduceAdd, Int.natCast_nonneg, Int.ofNat_lt, Nat.lt_add_one, Nat.le_refl, Int.le_refl, hw0, hb, hmn2, hsl] <;> rfl) (by simp only [go_sem, ↓reduceIte, Nat.reduceEqDiff, Nat.reduceLT, Nat.reduceLeDiff, Nat.reduceAdd, Int.natCast_nonneg, Int.ofNat_lt, Nat.lt_add_one, Nat.le_refl, Int.le_refl, hw0, hb, hmn2, hsl] <;> rfl) Try.td49 (by
        unfold aClear
        rw [hb, Try.zp37]
        simp only
        rw [if_pos ⟨by omega, trivial, by simp; omega⟩]
        congr 4
        rw [show m + (n - m) = n by omega, List.map_append, List.map_append, List.map_take, List.map_drop, List.map_replicate]
        rfl) ?_
      refine RunO.live' [0, 5] (by simp only [go_sem, ↓reduceIte, Nat.reduceEqDiff, Nat.reduceLT, Nat.reduceLeDiff, Nat.reduceAdd, Int.natCast_nonneg, Int.ofNat_lt, Nat.lt_add_one, Nat.le_refl, Int.le_refl, hw0, hb, hmn2, hsl] <;> rfl) ?_
      refine Run.seq ?_
      have hb3 := blk_set_self s1 L (some (.row 37 ((ys.take m ++ List.replicate (n - m) (⟨0, 0, 0⟩ : Item) ++ ys.drop n).map Item.pv)))
      refine Run.region ?_
      refine RunO.all (by simp only [go_sem, ↓reduceIte, Nat.reduceEqDiff, Nat.reduceLT, Nat.reduceLeDiff, Nat.reduceAdd, Int.natCast_nonneg, Int.ofNat_lt, Nat.lt_add_one, Nat.le_refl, Int.le_refl, hw0, hb, hmn2, hsl, hb3] <;> rfl) ?_
      refine RunO.live' [4] (by simp only [go_sem, ↓reduceIte, Nat.reduceEqDiff, Nat.reduceLT, Nat.reduceLeDiff, Nat.reduceAdd, Int.natCast_nonneg, Int.ofNat_lt, Nat.lt_add_one, Nat.le_refl, Int.le_refl, hw0, hb, hmn2, hsl, hb3] <;> rfl) ?_
      refine Run.ret ?_
      first
        | exact Ret.all (by simp only [Try.f23, go_sem] <;> rfl) ⟨m, _, rfl, hb3, by simp; omega, by omega, by rw [List.append_assoc, List.take_append_of_le_length (by simp; omega), List.take_take, Nat.min_self, htk, hin3], hnx, fun j h1 h2 => by rw [blk_set, if_neg h2]; exact hfr j h1 h2⟩
        | (have hk1 : ∀ j, j < n → (at0 zs j).key ≠ key := by
             rcases hk0 with ⟨_, h1⟩ | ⟨i, h1, _⟩
             · exact h1
             · have := of_decide_eq_true hc0
               omega
           exact Ret.all (by simp only [Try.f23, go_sem] <;> rfl) ⟨n, zs, rfl, hL, hn, Nat.le_refl _, (keepF_none hn hk1).symm, Nat.le_refl _, fun _ _ _ => rfl⟩)

theorem delete_nil {s : St} {f : PV} : ACalls Try.prog 23 [.sl .nil [], f] s (fun r s' => r = .sl .nil [] ∧ s' = s) := by
  refine ACalls.body Try.func23 rfl (by simp [Try.f23]) (by decide) fun hwf => ?_
  show Run _ _ [.code _] _ _ _
  refine Run.seq ?_
  refine Run.region ?_
  refine RunO.all (by simp only [go_sem, ↓reduceIte, Nat.reduceEqDiff, Nat.reduceLT, Nat.reduceLeDiff, Nat.reduceAdd] <;> rfl) ?_
  refine RunO.live' [0, 1] (by simp only [go_sem, ↓reduceIte, Nat.reduceEqDiff, Nat.reduceLT, Nat.reduceLeDiff, Nat.reduceAdd] <;> rfl) ?_
  refine Run.seq ?_
  refine Run.region ?_
  refine RunO.ops (pre := [_, _]) (by simp only [go_sem, ↓reduceIte, Nat.reduceEqDiff, Nat.reduceLT, Nat.reduceLeDiff, Nat.reduceAdd] <;> rfl) ?_
  refine RunO.call (by simp only [go_sem, ↓reduceIte, Nat.reduceEqDiff, Nat.reduceLT, Nat.reduceLeDiff, Nat.reduceAdd] <;> rfl) (by simp only [go_sem, ↓reduceIte, Nat.reduceEqDiff, Nat.reduceLT, Nat.reduceLeDiff, Nat.reduceAdd] <;> rfl) (by kernel_rfl) ((indexFunc_nil).mono ?_)
  rintro r s' ⟨rfl, hs⟩
  subst s'
  refine RunO.all (by simp only [go_sem, ↓reduceIte, Nat.reduceEqDiff, Nat.reduceLT, Nat.reduceLeDiff, Nat.reduceAdd] <;> rfl) ?_
  refine RunO.live' [0, 1, 5] (by simp only [go_sem, ↓reduceIte, Nat.reduceEqDiff, Nat.reduceLT, Nat.reduceLeDiff, Nat.reduceAdd] <;> rfl) ?_
  refine Run.seq ?_
  refine Run.seq ?_
  refine Run.region ?_
  refine RunO.all (by simp only [go_sem, ↓reduceIte, Nat.reduceEqDiff, Nat.reduceLT, Nat.reduceLeDiff, Nat.reduceAdd] <;> rfl) ?_
  refine RunO.live' [0, 1, 5, 12] (by simp only [go_sem, ↓reduceIte, Nat.reduceEqDiff, Nat.reduceLT, Nat.reduceLeDiff, Nat.reduceAdd] <;> rfl) ?_
  refine Run.cond (by simp only [go_sem, ↓reduceIte, Nat.reduceEqDiff, Nat.reduceLT, Nat.reduceLeDiff, Nat.reduceAdd] <;> rfl) (fun hc0 => ?_) (fun hc0 => ?_)
  · have hc := hc0
    refine Run.seq ?_
    refine Run.region ?_
    refine RunO.all (by simp only [go_sem, ↓reduceIte, Nat.reduceEqDiff, Nat.reduceLT, Nat.reduceLeDiff, Nat.reduceAdd] <;> rfl) ?_
    refine RunO.live' [4] (by simp only [go_sem, ↓reduceIte, Nat.reduceEqDiff, Nat.reduceLT, Nat.reduceLeDiff, Nat.reduceAdd] <;> rfl) ?_
    refine Run.ret ?_
    exact Ret.all (by simp only [Try.f23, go_sem] <;> rfl) ⟨rfl, rfl⟩
  · cases hc0

theorem drop_own {s : St} {h L n : Nat} {zs : List Item} {nx : PV} {key : Int} (hh : s.blk h = some (.row 51 [.agg [.own L 0 n, nx]])) (hL : s.blk L = some (.row 37 (zs.map Item.pv))) (hne : h ≠ L) (hn : n ≤ zs.length) (hsz : n < 1000000) :
    ACalls Try.prog 16 [.ptr h 0 0, .int .i64 key] s (fun r s' => ∃ (m : Nat) (ys : List Item), r = .int .i64 ((n : Int) - m) ∧ s'.blk h = some (.row 51 [.agg [.own L 0 m, nx]]) ∧ s'.blk L = some (.row 37 (ys.map Item.pv)) ∧ m ≤ ys.length ∧ m ≤ n ∧ (ys.take m).Perm (keepF key (zs.take n)) ∧ HeapF (at0 ys) m 0 ∧ s.nxt ≤ s'.nxt ∧
      ∀ i, i < s.nxt → i ≠ h → i ≠ L → s'.blk i = s.blk i) := by
  refine ACalls.body Try.func16 rfl (by simp [Try.f16]) (by decide) fun hwf => ?_
  show Run _ _ [.code _] _ _ _
  have hlt := lt_of_blk hwf hh
  have hLt := lt_of_blk hwf hL
  have hh0 : (h = s.nxt) = False := eq_false (by omega)
  have hl0 : (L = s.nxt) = False := eq_false (by omega)
  have hne1 : (h = L) = False := eq_false hne
  have hne2 : (L = h) = False := eq_false (Ne.symm hne)
  have hk0 : (s.nxt = h) = False := eq_false (by omega)
  have hk2 : (s.nxt = L) = False := eq_false (by omega)
  refine Run.seq ?_
  refine Run.region ?_
  refine RunO.all (by simp only [go_sem, ↓reduceIte, Nat.reduceEqDiff, Nat.reduceLT, Nat.reduceLeDiff, Nat.reduceAdd, hh, hL, hh0, hl0, hk0, hk2, hne1, hne2] <;> rfl) ?_
  refine RunO.live' [0, 3] (by simp only [go_sem, ↓reduceIte, Nat.reduceEqDiff, Nat.reduceLT, Nat.reduceLeDiff, Nat.reduceAdd, hh, hL, hh0, hl0, hk0, hk2, hne1, hne2] <;> rfl) ?_
  refine Run.seq ?_
  refine Run.region ?_
  refine RunO.all (by simp only [go_sem, ↓reduceIte, Nat.reduceEqDiff, Nat.reduceLT, Nat.reduceLeDiff, Nat.reduceAdd, hh, hL, hh0, hl0, hk0, hk2, hne1, hne2] <;> rfl) ?_
  refine RunO.live' [0, 3, 5] (by simp only [go_sem, ↓reduceIte, Nat.reduceEqDiff, Nat.reduceLT, Nat.reduceLeDiff, Nat.reduceAdd, hh, hL, hh0, hl0, hk0, hk2, hne1, hne2] <;> rfl) ?_
  refine Run.seq ?_
  refine Run.region ?_
  refine RunO.ops (pre := [_, _, _, _, _, _]) (by simp only [go_sem, ↓reduceIte, Nat.reduceEqDiff, Nat.reduceLT, Nat.reduceLeDiff, Nat.reduceAdd, hh, hL, hh0, hl0, hk0, hk2, hne1, hne2] <;> rfl) ?_
  refine RunO.callw (by simp only [go_sem, ↓reduceIte, Nat.reduceEqDiff, Nat.reduceLT, Nat.reduceLeDiff, Nat.reduceAdd, hh, hL, hh0, hl0, hk0, hk2, hne1, hne2] <;> rfl) (by simp only [go_sem, ↓reduceIte, Nat.reduceEqDiff, Nat.reduceLT, Nat.reduceLeDiff, Nat.reduceAdd, hh, hL, hh0, hl0, hk0, hk2, hne1, hne2] <;> rfl) (by simp only [go_sem, ↓reduceIte, Nat.reduceEqDiff, Nat.reduceLT, Nat.reduceLeDiff, Nat.reduceAdd, hh, hL, hh0, hl0, hk0, hk2, hne1, hne2] <;> rfl) (by kernel_rfl) ((delete_own (s := s.new (.row 3 [.int .i64 key])) (by rw [blk_new, if_neg (by omega)]; exact hL) hn hsz (blk_set_self0 _ _)).mono ?_)
  rintro r1 s1 ⟨m, ys, rfl, b1, b2, b3, b4, b5, b6⟩
  simp only [nxt_new] at b5 b6
  have hb1 : s1.blk h = some (.row 51 [.agg [.own L 0 n, nx]]) := by
    rw [b6 h (by omega) hne, blk_new, if_neg (by omega)]; exact hh
  have hwd : IntKind.i64.wrap ((n : Int) - m) = (n : Int) - m := wrap_i64 (by omega)
  refine RunO.all (by simp only [go_sem, ↓reduceIte, Nat.reduceEqDiff, Nat.reduceLT, Nat.reduceLeDiff, Nat.reduceAdd, hh, hL, hh0, hl0, hk0, hk2, hne1, hne2, hb1, hwd] <;> rfl) ?_
  refine RunO.live' [0, 5] (by simp only [go_sem, ↓reduceIte, Nat.reduceEqDiff, Nat.reduceLT, Nat.reduceLeDiff, Nat.reduceAdd, hh, hL, hh0, hl0, hk0, hk2, hne1, hne2, hb1, hwd] <;> rfl) ?_
  refine Run.seq ?_
  refine Run.region ?_
  refine RunO.ops (pre := [_, _, _, _]) (by simp only [go_sem, ↓reduceIte, Nat.reduceEqDiff, Nat.reduceLT, Nat.reduceLeDiff, Nat.reduceAdd, hh, hL, hh0, hl0, hk0, hk2, hne1, hne2, hb1, hwd] <;> rfl) ?_
  refine RunO.callw (by simp only [go_sem, ↓reduceIte, Nat.reduceEqDiff, Nat.reduceLT, Nat.reduceLeDiff, Nat.reduceAdd, hh, hL, hh0, hl0, hk0, hk2, hne1, hne2, hb1, hwd] <;> rfl) (by simp only [go_sem, ↓reduceIte, Nat.reduceEqDiff, Nat.reduceLT, Nat.reduceLeDiff, Nat.reduceAdd, hh, hL, hh0, hl0, hk0, hk2, hne1, hne2, hb1, hwd] <;> rfl) (by simp only [go_sem, ↓reduceIte, Nat.reduceEqDiff, Nat.reduceLT, Nat.reduceLeDiff, Nat.reduceAdd, hh, hL, hh0, hl0, hk0, hk2, hne1, hne2, hb1, hwd] <;> rfl) (by kernel_rfl) ((heap_Init (n := m) (blk_set_self _ _ _) (by rw [blk_set, if_neg (Ne.symm hne)]; exact b1) hne b2 (by omega)).mono ?_)
  rintro r2 s2 ⟨ys2, hs2, hsw, hhp⟩
  subst s2
  refine RunO.live' [0, 5] (by simp only [go_sem, ↓reduceIte, Nat.reduceEqDiff, Nat.reduceLT, Nat.reduceLeDiff, Nat.reduceAdd, hh, hL, hh0, hl0, hk0, hk2, hne1, hne2, hb1, hwd] <;> rfl) ?_
  refine Run.seq ?_
  refine Run.region ?_
  refine RunO.all (by simp only [go_sem, ↓reduceIte, Nat.reduceEqDiff, Nat.reduceLT, Nat.reduceLeDiff, Nat.reduceAdd, hh, hL, hh0, hl0, hk0, hk2, hne1, hne2, hb1, hwd] <;> rfl) ?_
  refine RunO.live' [4] (by simp only [go_sem, ↓reduceIte, Nat.reduceEqDiff, Nat.reduceLT, Nat.reduceLeDiff, Nat.reduceAdd, hh, hL, hh0, hl0, hk0, hk2, hne1, hne2, hb1, hwd] <;> rfl) ?_
  refine Run.ret ?_
  have hyl := hsw.len
  refine Ret.all (by simp only [Try.f16, go_sem] <;> rfl) ⟨m, ys2, rfl, ?_, blk_set_self _ _ _, by omega, b3, ?_, hhp, ?_, fun i hi h1 h2 => ?_⟩
  · rw [blk_set, if_neg hne, blk_set_self]
  · rw [← b4]; exact hsw.perm
  · simp only [nxt_set]; omega
  · rw [blk_set, if_neg h2, blk_set, if_neg h1, b6 i (by omega) h2, blk_new, if_neg (by omega)]

theorem drop_nil {s : St} {h : Nat} {nx : PV} {key : Int} (hh : s.blk h = some (.row 51 [.agg [.sl .nil [], nx]])) :
    ACalls Try.prog 16 [.ptr h 0 0, .int .i64 key] s (fun r s' => r = .int .i64 0 ∧ s'.blk h = some (.row 51 [.agg [.sl .nil [], nx]]) ∧ s.nxt ≤ s'.nxt ∧ ∀ i, i < s.nxt → i ≠ h → s'.blk i = s.blk i) := by
  refine ACalls.body Try.func16 rfl (by simp [Try.f16]) (by decide) fun hwf => ?_
  show Run _ _ [.code _] _ _ _
  have hlt := lt_of_blk hwf hh
  have hh0 : (h = s.nxt) = False := eq_false (by omega)
  have hk0 : (s.nxt = h) = False := eq_false (by omega)
  have hwd : IntKind.i64.wrap ((0 : Int) - 0) = 0 := by decide
  refine Run.seq ?_
  refine Run.region ?_
  refine RunO.all (by simp only [go_sem, ↓reduceIte, Nat.reduceEqDiff, Nat.reduceLT, Nat.reduceLeDiff, Nat.reduceAdd, hh, hh0, hk0] <;> rfl) ?_
  refine RunO.live' [0, 3] (by simp only [go_sem, ↓reduceIte, Nat.reduceEqDiff, Nat.reduceLT, Nat.reduceLeDiff, Nat.reduceAdd, hh, hh0, hk0] <;> rfl) ?_
  refine Run.seq ?_
  refine Run.region ?_
  refine RunO.all (by simp only [go_sem, ↓reduceIte, Nat.reduceEqDiff, Nat.reduceLT, Nat.reduceLeDiff, Nat.reduceAdd, hh, hh0, hk0] <;> rfl) ?_
  refine RunO.live' [0, 3, 5] (by simp only [go_sem, ↓reduceIte, Nat.reduceEqDiff, Nat.reduceLT, Nat.reduceLeDiff, Nat.reduceAdd, hh, hh0, hk0] <;> rfl) ?_
  refine Run.seq ?_
  refine Run.region ?_
  refine RunO.ops (pre := [_, _, _, _, _, _]) (by simp only [go_sem, ↓reduceIte, Nat.reduceEqDiff, Nat.reduceLT, Nat.reduceLeDiff, Nat.reduceAdd, hh, hh0, hk0] <;> rfl) ?_
  refine RunO.call (by simp only [go_sem, ↓reduceIte, Nat.reduceEqDiff, Nat.reduceLT, Nat.reduceLeDiff, Nat.reduceAdd, hh, hh0, hk0] <;> rfl) (by simp only [go_sem, ↓reduceIte, Nat.reduceEqDiff, Nat.reduceLT, Nat.reduceLeDiff, Nat.reduceAdd, hh, hh0, hk0] <;> rfl) (by kernel_rfl) ((delete_nil).mono ?_)
  rintro r1 s1 ⟨rfl, hs⟩
  subst s1
  refine RunO.all (by simp only [go_sem, ↓reduceIte, Nat.reduceEqDiff, Nat.reduceLT, Nat.reduceLeDiff, Nat.reduceAdd, hh, hh0, hk0] <;> rfl) ?_
  refine RunO.live' [0, 5] (by simp only [go_sem, ↓reduceIte, Nat.reduceEqDiff, Nat.reduceLT, Nat.reduceLeDiff, Nat.reduceAdd, hh, hh0, hk0] <;> rfl) ?_
  refine Run.seq ?_
  refine Run.region ?_
  refine RunO.ops (pre := [_, _, _, _]) (by simp only [go_sem, ↓reduceIte, Nat.reduceEqDiff, Nat.reduceLT, Nat.reduceLeDiff, Nat.reduceAdd, hh, hh0, hk0] <;> rfl) ?_
  refine RunO.call (by simp only [go_sem, ↓reduceIte, Nat.reduceEqDiff, Nat.reduceLT, Nat.reduceLeDiff, Nat.reduceAdd, hh, hh0, hk0] <;> rfl) (by simp only [go_sem, ↓reduceIte, Nat.reduceEqDiff, Nat.reduceLT, Nat.reduceLeDiff, Nat.reduceAdd, hh, hh0, hk0] <;> rfl) (by kernel_rfl) ((heap_Init_nil (blk_set_self _ _ _)).mono ?_)
  rintro r2 s2 hs
  subst s2
  refine RunO.live' [0, 5] (by simp only [go_sem, ↓reduceIte, Nat.reduceEqDiff, Nat.reduceLT, Nat.reduceLeDiff, Nat.reduceAdd, hh, hh0, hk0] <;> rfl) ?_
  refine Run.seq ?_
  refine Run.region ?_
  refine RunO.all (by simp only [go_sem, ↓reduceIte, Nat.reduceEqDiff, Nat.reduceLT, Nat.reduceLeDiff, Nat.reduceAdd, hh, hh0, hk0, hwd, Int.sub_self] <;> rfl) ?_
  refine RunO.live' [4] (by simp only [go_sem, ↓reduceIte, Nat.reduceEqDiff, Nat.reduceLT, Nat.reduceLeDiff, Nat.reduceAdd, hh, hh0, hk0, hwd, Int.sub_self] <;> rfl) ?_
  refine Run.ret ?_
  refine Ret.all (by simp only [Try.f16, go_sem] <;> rfl) ⟨rfl, blk_set_self _ _ _, ?_, fun i hi h1 => ?_⟩
  · simp only [nxt_set, nxt_new]; omega
  · rw [blk_set, if_neg h1, blk_new, if_neg (by omega)]

end Go.Proofs
