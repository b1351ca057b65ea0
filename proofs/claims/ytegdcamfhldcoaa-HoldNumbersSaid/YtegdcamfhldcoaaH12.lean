import Derived.Test.YtegdcamfhldcoaaH11
namespace Go.Proofs
open Go.PM
set_option maxHeartbeats 2000000
set_option linter.unusedSimpArgs false
set_option linter.unusedVariables false

def withinI (n lo hi : Int) : Int := if lo ≤ n ∧ n ≤ hi then n else lo + if n.tmod (hi - lo + 1) < 0 then n.tmod (hi - lo + 1) + hi - lo + 1 else n.tmod (hi - lo + 1)

theorem tmod_bound (n : Int) {m : Int} (h : 0 < m) : -m < n.tmod m ∧ n.tmod m < m := by
  constructor
  · rcases Int.le_total 0 n with h1 | h1
    · have := Int.tmod_nonneg m h1; omega
    · have h2 := Int.tmod_lt_of_pos (-n) h
      rw [Int.neg_tmod] at h2
      omega
  · exact Int.tmod_lt_of_pos n h

theorem wrap_le (n : Int) : -9223372036854775808 ≤ IntKind.i64.wrap n ∧ IntKind.i64.wrap n ≤ 9223372036854775807 := by
  simp [IntKind.wrap, IntKind.signed, IntKind.bits]
  omega

theorem isEls_asks (l : List AskI) : isEls Try.prog 24 (l.map AskI.pv) := isEls_map (fun a => ⟨rfl, by rw [Try.cz24]; rfl⟩) l
theorem weaks_asks (l : List AskI) : PV.weaks (l.map AskI.pv) = l.map AskI.pv := weaks_map_id AskI.pv (fun _ => rfl) l

theorem within_ {n lo hi : Int} (h0 : 0 ≤ lo) (h1 : lo ≤ hi) (h2 : hi ≤ 1152921504606846976) {s : St} : ACalls Try.prog 10 [.int .i64 n, .int .i64 lo, .int .i64 hi] s (fun r s' => r = .int .i64 (withinI n lo hi) ∧ s' = s) := by
  refine ACalls.body Try.func10 rfl (by simp [Try.f10]) (by decide) fun hwf => ?_
  show Run _ _ [.code _] _ _ _
  have hb := tmod_bound n (m := hi - lo + 1) (by omega)
  have hw1 : IntKind.i64.wrap (hi - lo) = hi - lo := wrap_i64 (by omega)
  have hw2 : IntKind.i64.wrap (hi - lo + 1) = hi - lo + 1 := wrap_i64 (by omega)
  have hw3 : IntKind.i64.wrap (n.tmod (hi - lo + 1) + hi) = n.tmod (hi - lo + 1) + hi := wrap_i64 (by omega)
  have hw4 : IntKind.i64.wrap (n.tmod (hi - lo + 1) + hi - lo) = n.tmod (hi - lo + 1) + hi - lo := wrap_i64 (by omega)
  have hw5 : IntKind.i64.wrap (n.tmod (hi - lo + 1) + hi - lo + 1) = n.tmod (hi - lo + 1) + hi - lo + 1 := wrap_i64 (by omega)
  have hne : (hi - lo + 1 = 0) = False := eq_false (by omega)
  have hw6 : True := trivial
  refine Run.seq ?_
  refine Run.region ?_
  refine RunO.all (by simp only [go_sem, ↓reduceIte, Nat.reduceEqDiff, Nat.reduceLT, Nat.reduceLeDiff, Nat.reduceAdd, hw1, hw2, hw3, hw4, hw5, hw6, hne] <;> rfl) ?_
  refine RunO.live' [0, 1, 2] (by simp only [go_sem, ↓reduceIte, Nat.reduceEqDiff, Nat.reduceLT, Nat.reduceLeDiff, Nat.reduceAdd, hw1, hw2, hw3, hw4, hw5, hw6, hne] <;> rfl) ?_
  refine Run.seq ?_
  refine Run.seq ?_
  refine Run.region ?_
  refine RunO.all (by simp only [go_sem, ↓reduceIte, Nat.reduceEqDiff, Nat.reduceLT, Nat.reduceLeDiff, Nat.reduceAdd, hw1, hw2, hw3, hw4, hw5, hw6, hne] <;> rfl) ?_
  refine RunO.live' [0, 1, 2, 14] (by simp only [go_sem, ↓reduceIte, Nat.reduceEqDiff, Nat.reduceLT, Nat.reduceLeDiff, Nat.reduceAdd, hw1, hw2, hw3, hw4, hw5, hw6, hne] <;> rfl) ?_
  refine Run.cond (by simp only [go_sem, ↓reduceIte, Nat.reduceEqDiff, Nat.reduceLT, Nat.reduceLeDiff, Nat.reduceAdd, hw1, hw2, hw3, hw4, hw5, hw6, hne] <;> rfl) (fun hc0 => ?_) (fun hc0 => ?_)
  · have hc := hc0
    refine Run.seq ?_
    refine Run.region ?_
    refine RunO.all (by simp only [go_sem, ↓reduceIte, Nat.reduceEqDiff, Nat.reduceLT, Nat.reduceLeDiff, Nat.reduceAdd, hw1, hw2, hw3, hw4, hw5, hw6, hne] <;> rfl) ?_
    refine RunO.live' [6] (by simp only [go_sem, ↓reduceIte, Nat.reduceEqDiff, Nat.reduceLT, Nat.reduceLeDiff, Nat.reduceAdd, hw1, hw2, hw3, hw4, hw5, hw6, hne] <;> rfl) ?_
    refine Run.ret ?_
    refine Ret.pure (by simp only [Try.f10, go_sem]; rfl) rfl (by simp only [go_sem]) hwf (fun i hi => ?_) ⟨?_, rfl⟩
    · have h0 : ∀ n, (i = s.nxt + n) = False := fun n => eq_false (by omega)
      have h1 : (i = s.nxt) = False := eq_false (by omega)
      try simp only [go_sem, h0, h1]
    · unfold withinI
      first
        | (have h : lo ≤ n ∧ n ≤ hi := by simpa using hc0
           rw [if_pos h]; rfl)
        | (have h : ¬ (lo ≤ n ∧ n ≤ hi) := by simpa using hc0
           have hm := of_decide_eq_true hc1
           rw [if_neg h, if_pos hm, wrap_i64 (by omega)]; rfl)
        | (have h : ¬ (lo ≤ n ∧ n ≤ hi) := by simpa using hc0
           have hm := of_decide_eq_false hc1
           rw [if_neg h, if_neg hm, wrap_i64 (by omega)]; rfl)
  · have hc := hc0
    refine Run.skip ?_
    refine Run.seq ?_
    refine Run.region ?_
    refine RunO.all (by simp only [go_sem, ↓reduceIte, Nat.reduceEqDiff, Nat.reduceLT, Nat.reduceLeDiff, Nat.reduceAdd, hw1, hw2, hw3, hw4, hw5, hw6, hne] <;> rfl) ?_
    refine RunO.live' [0, 1, 2] (by simp only [go_sem, ↓reduceIte, Nat.reduceEqDiff, Nat.reduceLT, Nat.reduceLeDiff, Nat.reduceAdd, hw1, hw2, hw3, hw4, hw5, hw6, hne] <;> rfl) ?_
    refine Run.seq ?_
    refine Run.seq ?_
    refine Run.region ?_
    refine RunO.all (by simp only [go_sem, ↓reduceIte, Nat.reduceEqDiff, Nat.reduceLT, Nat.reduceLeDiff, Nat.reduceAdd, hw1, hw2, hw3, hw4, hw5, hw6, hne] <;> rfl) ?_
    refine RunO.live' [0, 1, 2, 23] (by simp only [go_sem, ↓reduceIte, Nat.reduceEqDiff, Nat.reduceLT, Nat.reduceLeDiff, Nat.reduceAdd, hw1, hw2, hw3, hw4, hw5, hw6, hne] <;> rfl) ?_
    refine Run.cond (by simp only [go_sem, ↓reduceIte, Nat.reduceEqDiff, Nat.reduceLT, Nat.reduceLeDiff, Nat.reduceAdd, hw1, hw2, hw3, hw4, hw5, hw6, hne] <;> rfl) (fun hc1 => ?_) (fun hc1 => ?_)
    · have hc := hc1
      refine Run.region ?_
      refine RunO.all (by simp only [go_sem, ↓reduceIte, Nat.reduceEqDiff, Nat.reduceLT, Nat.reduceLeDiff, Nat.reduceAdd, hw1, hw2, hw3, hw4, hw5, hw6, hne] <;> rfl) ?_
      refine RunO.live' [0, 1] (by simp only [go_sem, ↓reduceIte, Nat.reduceEqDiff, Nat.reduceLT, Nat.reduceLeDiff, Nat.reduceAdd, hw1, hw2, hw3, hw4, hw5, hw6, hne] <;> rfl) ?_
      refine Run.seq ?_
      refine Run.region ?_
      refine RunO.all (by simp only [go_sem, ↓reduceIte, Nat.reduceEqDiff, Nat.reduceLT, Nat.reduceLeDiff, Nat.reduceAdd, hw1, hw2, hw3, hw4, hw5, hw6, hne] <;> rfl) ?_
      refine RunO.live' [6] (by simp only [go_sem, ↓reduceIte, Nat.reduceEqDiff, Nat.reduceLT, Nat.reduceLeDiff, Nat.reduceAdd, hw1, hw2, hw3, hw4, hw5, hw6, hne] <;> rfl) ?_
      refine Run.ret ?_
      refine Ret.pure (by simp only [Try.f10, go_sem]; rfl) rfl (by simp only [go_sem]) hwf (fun i hi => ?_) ⟨?_, rfl⟩
      · have h0 : ∀ n, (i = s.nxt + n) = False := fun n => eq_false (by omega)
        have h1 : (i = s.nxt) = False := eq_false (by omega)
        try simp only [go_sem, h0, h1]
      · unfold withinI
        first
          | (have h : lo ≤ n ∧ n ≤ hi := by simpa using hc0
             rw [if_pos h]; rfl)
          | (have h : ¬ (lo ≤ n ∧ n ≤ hi) := by simpa using hc0
             have hm := of_decide_eq_true hc1
             rw [if_neg h, if_pos hm, wrap_i64 (by omega)]; rfl)
          | (have h : ¬ (lo ≤ n ∧ n ≤ hi) := by simpa using hc0
             have hm := of_decide_eq_false hc1
             rw [if_neg h, if_neg hm, wrap_i64 (by omega)]; rfl)
    · have hc := hc1
      refine Run.skip ?_
      refine Run.seq ?_
      refine Run.region ?_
      refine RunO.all (by simp only [go_sem, ↓reduceIte, Nat.reduceEqDiff, Nat.reduceLT, Nat.reduceLeDiff, Nat.reduceAdd, hw1, hw2, hw3, hw4, hw5, hw6, hne] <;> rfl) ?_
      refine RunO.live' [6] (by simp only [go_sem, ↓reduceIte, Nat.reduceEqDiff, Nat.reduceLT, Nat.reduceLeDiff, Nat.reduceAdd, hw1, hw2, hw3, hw4, hw5, hw6, hne] <;> rfl) ?_
      refine Run.ret ?_
      refine Ret.pure (by simp only [Try.f10, go_sem]; rfl) rfl (by simp only [go_sem]) hwf (fun i hi => ?_) ⟨?_, rfl⟩
      · have h0 : ∀ n, (i = s.nxt + n) = False := fun n => eq_false (by omega)
        have h1 : (i = s.nxt) = False := eq_false (by omega)
        try simp only [go_sem, h0, h1]
      · unfold withinI
        first
          | (have h : lo ≤ n ∧ n ≤ hi := by simpa using hc0
             rw [if_pos h]; rfl)
          | (have h : ¬ (lo ≤ n ∧ n ≤ hi) := by simpa using hc0
             have hm := of_decide_eq_true hc1
             rw [if_neg h, if_pos hm, wrap_i64 (by omega)]; rfl)
          | (have h : ¬ (lo ≤ n ∧ n ≤ hi) := by simpa using hc0
             have hm := of_decide_eq_false hc1
             rw [if_neg h, if_neg hm, wrap_i64 (by omega)]; rfl)

theorem holdPlays_ {l : List AskI} (hfit : ∀ a ∈ l, a.t ≤ 9223372036854775807) (hsz : l.length * 24 ≤ 140737488351232) {s : St} : ACalls Try.prog 4 [.sl .unk (l.map AskI.pv)] s (fun r s' => r = .bool true) := by
  refine ACalls.body Try.func4 rfl (by simp [Try.f4]) (by decide) fun hwf => ?_
  show Run _ _ [.code _] _ _ _
  refine Run.seq ?_
  refine Run.region ?_
  refine RunO.all (by simp only [go_sem, ↓reduceIte, Nat.reduceEqDiff, Nat.reduceLT, Nat.reduceLeDiff, Nat.reduceAdd, Int.natCast_nonneg, Int.ofNat_lt, List.length_map, decide_true, decide_false, weaks_asks] <;> rfl) ?_
  refine RunO.live' [0] (by simp only [go_sem, ↓reduceIte, Nat.reduceEqDiff, Nat.reduceLT, Nat.reduceLeDiff, Nat.reduceAdd, Int.natCast_nonneg, Int.ofNat_lt, List.length_map, decide_true, decide_false, weaks_asks] <;> rfl) ?_
  refine Run.seq ?_
  refine Run.region ?_
  refine RunO.all (by simp only [go_sem, ↓reduceIte, Nat.reduceEqDiff, Nat.reduceLT, Nat.reduceLeDiff, Nat.reduceAdd, Int.natCast_nonneg, Int.ofNat_lt, List.length_map, decide_true, decide_false, weaks_asks] <;> rfl) ?_
  refine RunO.live' [0, 3] (by simp only [go_sem, ↓reduceIte, Nat.reduceEqDiff, Nat.reduceLT, Nat.reduceLeDiff, Nat.reduceAdd, Int.natCast_nonneg, Int.ofNat_lt, List.length_map, decide_true, decide_false, weaks_asks] <;> rfl) ?_
  refine Run.seq ?_
  refine Run.seq ?_
  refine Run.region ?_
  refine RunO.all (by simp only [go_sem, ↓reduceIte, Nat.reduceEqDiff, Nat.reduceLT, Nat.reduceLeDiff, Nat.reduceAdd, Int.natCast_nonneg, Int.ofNat_lt, List.length_map, decide_true, decide_false, weaks_asks] <;> rfl) ?_
  refine RunO.live' [0, 3, 6, 7] (by simp only [go_sem, ↓reduceIte, Nat.reduceEqDiff, Nat.reduceLT, Nat.reduceLeDiff, Nat.reduceAdd, Int.natCast_nonneg, Int.ofNat_lt, List.length_map, decide_true, decide_false, weaks_asks] <;> rfl) ?_
  refine Run.block ?_
  -- loop 0, live [0, 3, 6, 7]
  refine Run.loop (fun e s' => ∃ (i : Nat) (out : List AskI) (k : SK), e = [(0, .sl .unk (l.map AskI.pv)), (3, .sl k (out.map AskI.pv)), (6, .int .i64 l.length), (7, .int .i64 i)] ∧ Grows s' k out.length 3 ∧ out.length = i ∧ i ≤ l.length ∧ ∀ a ∈ out, a.t ≤ 9223372036854775807) (fun e s' => l.length - ivar e 7) ?_ ?_
  · exact ⟨0, [], .nil, rfl, .inl ⟨rfl, rfl⟩, rfl, by omega, by simp⟩
  rintro e s3 ⟨i, out, k, rfl, hgr, hsl, hi, hsome⟩
  refine Run.seq ?_
  refine Run.region ?_
  refine RunO.all (by simp only [go_sem, ↓reduceIte, Nat.reduceEqDiff, Nat.reduceLT, Nat.reduceLeDiff, Nat.reduceAdd, Int.natCast_nonneg, Int.ofNat_lt, List.length_map, decide_true, decide_false, weaks_asks] <;> rfl) ?_
  refine RunO.live' [0, 3, 6, 7, 8] (by simp only [go_sem, ↓reduceIte, Nat.reduceEqDiff, Nat.reduceLT, Nat.reduceLeDiff, Nat.reduceAdd, Int.natCast_nonneg, Int.ofNat_lt, List.length_map, decide_true, decide_false, weaks_asks] <;> rfl) ?_
  refine Run.seq ?_
  refine Run.cond (by simp only [go_sem, ↓reduceIte, Nat.reduceEqDiff, Nat.reduceLT, Nat.reduceLeDiff, Nat.reduceAdd, Int.natCast_nonneg, Int.ofNat_lt, List.length_map, decide_true, decide_false, weaks_asks] <;> rfl) (fun hc0 => ?_) (fun hc0 => ?_)
  · have hc := hc0
    refine Run.skip ?_
    refine Run.seq ?_
    refine Run.block ?_
    refine Run.seq ?_
    have hil : i < l.length := by have := of_decide_eq_true hc0; omega
    obtain ⟨a, ha⟩ : ∃ a, l[i]'hil = a := ⟨_, rfl⟩
    have hx : (l.map AskI.pv)[i]? = some (.agg [.int .i64 a.kind, .int .i64 a.t, .int .i64 a.key]) := by rw [List.getElem?_map, List.getElem?_eq_getElem hil, ha]; rfl
    have hw : IntKind.i64.wrap ((i : Int) + 1) = ((i + 1 : Nat) : Int) := by rw [wrap_i64 (by omega)]; omega
    refine Run.region ?_
    refine RunO.all (by simp only [go_sem, ↓reduceIte, Nat.reduceEqDiff, Nat.reduceLT, Nat.reduceLeDiff, Nat.reduceAdd, Int.natCast_nonneg, Int.ofNat_lt, List.length_map, decide_true, decide_false, weaks_asks, hx, hw] <;> rfl) ?_
    refine RunO.live' [0, 3, 4, 6, 7] (by simp only [go_sem, ↓reduceIte, Nat.reduceEqDiff, Nat.reduceLT, Nat.reduceLeDiff, Nat.reduceAdd, Int.natCast_nonneg, Int.ofNat_lt, List.length_map, decide_true, decide_false, weaks_asks, hx, hw] <;> rfl) ?_
    refine Run.drawCut 21 [] Try.mixed (by kernel_rfl) (by kernel_rfl) ?_
    refine DetC.pre (pre := [_, _, _, _, _, _]) (by simp only [go_sem, ↓reduceIte, Nat.reduceEqDiff, Nat.reduceLT, Nat.reduceLeDiff, Nat.reduceAdd, Int.natCast_nonneg, Int.ofNat_lt, List.length_map, decide_true, decide_false, weaks_asks, hx, hw] <;> rfl) ?_
    refine DetC.call (by simp only [go_sem, ↓reduceIte, Nat.reduceEqDiff, Nat.reduceLT, Nat.reduceLeDiff, Nat.reduceAdd, Int.natCast_nonneg, Int.ofNat_lt, List.length_map, decide_true, decide_false, weaks_asks, hx, hw] <;> rfl) (by simp only [go_sem, ↓reduceIte, Nat.reduceEqDiff, Nat.reduceLT, Nat.reduceLeDiff, Nat.reduceAdd, Int.natCast_nonneg, Int.ofNat_lt, List.length_map, decide_true, decide_false, weaks_asks, hx, hw] <;> rfl) (by simp only [go_sem, ↓reduceIte, Nat.reduceEqDiff, Nat.reduceLT, Nat.reduceLeDiff, Nat.reduceAdd, Int.natCast_nonneg, Int.ofNat_lt, List.length_map, decide_true, decide_false, weaks_asks, hx, hw] <;> rfl) (by kernel_rfl) (within_ (n := a.kind) (by decide) (by decide) (by decide)) ?_
    refine DetC.all (by simp only [go_sem, ↓reduceIte, Nat.reduceEqDiff, Nat.reduceLT, Nat.reduceLeDiff, Nat.reduceAdd, Int.natCast_nonneg, Int.ofNat_lt, List.length_map, decide_true, decide_false, weaks_asks, hx, hw] <;> rfl) ?_
    refine RunO.grow (by simp only [go_sem, ↓reduceIte, Nat.reduceEqDiff, Nat.reduceLT, Nat.reduceLeDiff, Nat.reduceAdd, Int.natCast_nonneg, Int.ofNat_lt, List.length_map, decide_true, decide_false, weaks_asks, hx, hw] <;> rfl) (by simp only [go_sem, ↓reduceIte, Nat.reduceEqDiff, Nat.reduceLT, Nat.reduceLeDiff, Nat.reduceAdd, Int.natCast_nonneg, Int.ofNat_lt, List.length_map, decide_true, decide_false, weaks_asks, hx, hw] <;> rfl) (by simp only [go_sem, ↓reduceIte, Nat.reduceEqDiff, Nat.reduceLT, Nat.reduceLeDiff, Nat.reduceAdd, Int.natCast_nonneg, Int.ofNat_lt, List.length_map, decide_true, decide_false, weaks_asks, hx, hw] <;> rfl) Try.td22 (by rw [Try.zp24]; rfl) (isEls_asks _) (isEls_asks [⟨withinI a.kind 0 4, ibits .and .i64 a.t 31, ibits .and .i64 a.key 7⟩]) (by rw [Try.by24]; decide) (by rw [Try.by24]; simp; omega) (by rw [Try.cz24, List.length_map]; exact hgr) (by simp) ?_
    intro kk' s' hgr' htm
    refine RunO.all (by simp only [go_sem, ↓reduceIte, Nat.reduceEqDiff, Nat.reduceLT, Nat.reduceLeDiff, Nat.reduceAdd, Int.natCast_nonneg, Int.ofNat_lt, List.length_map, decide_true, decide_false, weaks_asks, hx, hw] <;> rfl) ?_
    refine RunO.live' [0, 3, 6, 7] (by simp only [go_sem, ↓reduceIte, Nat.reduceEqDiff, Nat.reduceLT, Nat.reduceLeDiff, Nat.reduceAdd, Int.natCast_nonneg, Int.ofNat_lt, List.length_map, decide_true, decide_false, weaks_asks, hx, hw] <;> rfl) ?_
    refine Run.blk ?_
    refine Run.region ?_
    refine RunO.all (by simp only [go_sem, ↓reduceIte, Nat.reduceEqDiff, Nat.reduceLT, Nat.reduceLeDiff, Nat.reduceAdd, Int.natCast_nonneg, Int.ofNat_lt, List.length_map, decide_true, decide_false, weaks_asks, hx, hw] <;> rfl) ?_
    refine RunO.live' [0, 3, 6, 7] (by simp only [go_sem, ↓reduceIte, Nat.reduceEqDiff, Nat.reduceLT, Nat.reduceLeDiff, Nat.reduceAdd, Int.natCast_nonneg, Int.ofNat_lt, List.length_map, decide_true, decide_false, weaks_asks, hx, hw] <;> rfl) ?_
    rw [Try.cz24] at hgr'
    refine Run.lp ⟨⟨i + 1, out ++ [⟨withinI a.kind 0 4, ibits .and .i64 a.t 31, ibits .and .i64 a.key 7⟩], kk', by rw [List.map_append]; rfl, by simpa using hgr', by simp; omega, by omega, fun x hx => ?_⟩, ?_⟩
    · rcases List.mem_append.1 hx with h | h
      · exact hsome x h
      · rw [List.mem_singleton.1 h]
        exact Int.le_trans (ibits_and_le a.t 31 (by decide)).2 (by decide)
    · simp only [ivar, go_sem, ↓reduceIte, Nat.reduceEqDiff]
      omega
  · have hc := hc0
    refine Run.exit ?_
    show Run _ _ _ _ _ _
    refine Run.seq ?_
    refine Run.region ?_
    refine RunO.ops (pre := [_]) (by simp only [go_sem, ↓reduceIte, Nat.reduceEqDiff, Nat.reduceLT, Nat.reduceLeDiff, Nat.reduceAdd, Int.natCast_nonneg, Int.ofNat_lt, List.length_map, decide_true, decide_false, weaks_asks] <;> rfl) ?_
    refine RunO.callw (by simp only [go_sem, ↓reduceIte, Nat.reduceEqDiff, Nat.reduceLT, Nat.reduceLeDiff, Nat.reduceAdd, Int.natCast_nonneg, Int.ofNat_lt, List.length_map, decide_true, decide_false, weaks_asks] <;> rfl) (by simp only [go_sem, ↓reduceIte, Nat.reduceEqDiff, Nat.reduceLT, Nat.reduceLeDiff, Nat.reduceAdd, Int.natCast_nonneg, Int.ofNat_lt, List.length_map, decide_true, decide_false, weaks_asks] <;> rfl) (by simp only [go_sem, ↓reduceIte, Nat.reduceEqDiff, Nat.reduceLT, Nat.reduceLeDiff, Nat.reduceAdd, Int.natCast_nonneg, Int.ofNat_lt, List.length_map, decide_true, decide_false, weaks_asks] <;> rfl) (by kernel_rfl) ((play_ hfit).mono ?_)
    rintro r1 s1 rfl
    refine RunO.ops (pre := [_]) (by simp only [go_sem, ↓reduceIte, Nat.reduceEqDiff, Nat.reduceLT, Nat.reduceLeDiff, Nat.reduceAdd, Int.natCast_nonneg, Int.ofNat_lt, List.length_map, decide_true, decide_false, weaks_asks] <;> rfl) ?_
    refine RunO.bcase 35 (by simp only [go_sem, ↓reduceIte, Nat.reduceEqDiff, Nat.reduceLT, Nat.reduceLeDiff, Nat.reduceAdd, Int.natCast_nonneg, Int.ofNat_lt, List.length_map, decide_true, decide_false, weaks_asks] <;> rfl) (fun hg2 => ?_) (fun hg2 => ?_)
    · refine RunO.gdo (by simp only [go_sem, ↓reduceIte, Nat.reduceEqDiff, Nat.reduceLT, Nat.reduceLeDiff, Nat.reduceAdd, Int.natCast_nonneg, Int.ofNat_lt, List.length_map, decide_true, decide_false, weaks_asks] <;> rfl) (by simp only [go_sem, ↓reduceIte, Nat.reduceEqDiff, Nat.reduceLT, Nat.reduceLeDiff, Nat.reduceAdd, Int.natCast_nonneg, Int.ofNat_lt, List.length_map, decide_true, decide_false, weaks_asks] <;> rfl) ?_
      refine RunO.callw (by simp only [go_sem, ↓reduceIte, Nat.reduceEqDiff, Nat.reduceLT, Nat.reduceLeDiff, Nat.reduceAdd, Int.natCast_nonneg, Int.ofNat_lt, List.length_map, decide_true, decide_false, weaks_asks] <;> rfl) (by simp only [go_sem, ↓reduceIte, Nat.reduceEqDiff, Nat.reduceLT, Nat.reduceLeDiff, Nat.reduceAdd, Int.natCast_nonneg, Int.ofNat_lt, List.length_map, decide_true, decide_false, weaks_asks] <;> rfl) (by simp only [go_sem, ↓reduceIte, Nat.reduceEqDiff, Nat.reduceLT, Nat.reduceLeDiff, Nat.reduceAdd, Int.natCast_nonneg, Int.ofNat_lt, List.length_map, decide_true, decide_false, weaks_asks] <;> rfl) (by kernel_rfl) ((play_ (l := out) hsome).mono ?_)
      rintro r2 s2 rfl
      refine RunO.ops (pre := [_, _]) (by simp only [go_sem, ↓reduceIte, Nat.reduceEqDiff, Nat.reduceLT, Nat.reduceLeDiff, Nat.reduceAdd, Int.natCast_nonneg, Int.ofNat_lt, List.length_map, decide_true, decide_false, weaks_asks] <;> rfl) ?_
      refine RunO.bcase 39 (by simp only [go_sem, ↓reduceIte, Nat.reduceEqDiff, Nat.reduceLT, Nat.reduceLeDiff, Nat.reduceAdd, Int.natCast_nonneg, Int.ofNat_lt, List.length_map, decide_true, decide_false, weaks_asks] <;> rfl) (fun hg6 => ?_) (fun hg6 => ?_)
      · refine RunO.callw (by simp only [go_sem, ↓reduceIte, Nat.reduceEqDiff, Nat.reduceLT, Nat.reduceLeDiff, Nat.reduceAdd, Int.natCast_nonneg, Int.ofNat_lt, List.length_map, decide_true, decide_false, weaks_asks] <;> rfl) (by simp only [go_sem, ↓reduceIte, Nat.reduceEqDiff, Nat.reduceLT, Nat.reduceLeDiff, Nat.reduceAdd, Int.natCast_nonneg, Int.ofNat_lt, List.length_map, decide_true, decide_false, weaks_asks] <;> rfl) (by simp only [go_sem, ↓reduceIte, Nat.reduceEqDiff, Nat.reduceLT, Nat.reduceLeDiff, Nat.reduceAdd, Int.natCast_nonneg, Int.ofNat_lt, List.length_map, decide_true, decide_false, weaks_asks] <;> rfl) (by kernel_rfl) ((known_).mono ?_)
        rintro r13 s13 ⟨rfl, _, _⟩
        refine RunO.all (by simp only [go_sem, ↓reduceIte, Nat.reduceEqDiff, Nat.reduceLT, Nat.reduceLeDiff, Nat.reduceAdd, Int.natCast_nonneg, Int.ofNat_lt, List.length_map, decide_true, decide_false, weaks_asks] <;> rfl) ?_
        refine RunO.live' [2] (by simp only [go_sem, ↓reduceIte, Nat.reduceEqDiff, Nat.reduceLT, Nat.reduceLeDiff, Nat.reduceAdd, Int.natCast_nonneg, Int.ofNat_lt, List.length_map, decide_true, decide_false, weaks_asks] <;> rfl) ?_
        refine Run.ret ?_
        exact Ret.all (by simp only [Try.f4, go_sem] <;> rfl) rfl
      · cases hg6
    · cases hg2

theorem holdNumbers_ {s : St} : ACalls Try.prog 3 [] s (fun r s' => r = .bool true) := by
  refine ACalls.body Try.func3 rfl (by simp [Try.f3]) (by decide) fun hwf => ?_
  show Run _ _ [.code _] _ _ _
  refine Run.seq ?_
  refine Run.region ?_
  refine RunO.all (by simp only [go_sem, ↓reduceIte, Nat.reduceEqDiff, Nat.reduceLT, Nat.reduceLeDiff, Nat.reduceAdd, Int.natCast_nonneg, Int.ofNat_lt, List.length_map, decide_true, decide_false, weaks_asks] <;> rfl) ?_
  refine RunO.live' [] (by simp only [go_sem, ↓reduceIte, Nat.reduceEqDiff, Nat.reduceLT, Nat.reduceLeDiff, Nat.reduceAdd, Int.natCast_nonneg, Int.ofNat_lt, List.length_map, decide_true, decide_false, weaks_asks] <;> rfl) ?_
  refine Run.seq ?_
  refine Run.seq ?_
  refine Run.region ?_
  refine RunO.all (by simp only [go_sem, ↓reduceIte, Nat.reduceEqDiff, Nat.reduceLT, Nat.reduceLeDiff, Nat.reduceAdd, Int.natCast_nonneg, Int.ofNat_lt, List.length_map, decide_true, decide_false, weaks_asks] <;> rfl) ?_
  refine RunO.live' [1] (by simp only [go_sem, ↓reduceIte, Nat.reduceEqDiff, Nat.reduceLT, Nat.reduceLeDiff, Nat.reduceAdd, Int.natCast_nonneg, Int.ofNat_lt, List.length_map, decide_true, decide_false, weaks_asks] <;> rfl) ?_
  refine Run.block ?_
  -- loop 0, live [1]
  refine Run.loop (fun e s' => ∃ (k : Nat), e = [(1, .int .i64 k)] ∧ k ≤ 40) (fun e s' => 40 - ivar e 1) ?_ ?_
  · exact ⟨0, rfl, by omega⟩
  rintro e s2 ⟨k, rfl, hk⟩
  refine Run.seq ?_
  refine Run.seq ?_
  refine Run.region ?_
  refine RunO.all (by simp only [go_sem, ↓reduceIte, Nat.reduceEqDiff, Nat.reduceLT, Nat.reduceLeDiff, Nat.reduceAdd, Int.natCast_nonneg, Int.ofNat_lt, List.length_map, decide_true, decide_false, weaks_asks] <;> rfl) ?_
  refine RunO.live' [1, 5] (by simp only [go_sem, ↓reduceIte, Nat.reduceEqDiff, Nat.reduceLT, Nat.reduceLeDiff, Nat.reduceAdd, Int.natCast_nonneg, Int.ofNat_lt, List.length_map, decide_true, decide_false, weaks_asks] <;> rfl) ?_
  refine Run.cond (by simp only [go_sem, ↓reduceIte, Nat.reduceEqDiff, Nat.reduceLT, Nat.reduceLeDiff, Nat.reduceAdd, Int.natCast_nonneg, Int.ofNat_lt, List.length_map, decide_true, decide_false, weaks_asks] <;> rfl) (fun hc0 => ?_) (fun hc0 => ?_)
  · have hc := hc0
    refine Run.skip ?_
    refine Run.seq ?_
    refine Run.block ?_
    refine Run.seq ?_
    refine Run.region ?_
    refine RunO.all (by simp only [go_sem, ↓reduceIte, Nat.reduceEqDiff, Nat.reduceLT, Nat.reduceLeDiff, Nat.reduceAdd, Int.natCast_nonneg, Int.ofNat_lt, List.length_map, decide_true, decide_false, weaks_asks] <;> rfl) ?_
    refine RunO.live' [1, 2] (by simp only [go_sem, ↓reduceIte, Nat.reduceEqDiff, Nat.reduceLT, Nat.reduceLeDiff, Nat.reduceAdd, Int.natCast_nonneg, Int.ofNat_lt, List.length_map, decide_true, decide_false, weaks_asks] <;> rfl) ?_
    refine Run.seq ?_
    refine Run.seq ?_
    refine Run.region ?_
    refine RunO.all (by simp only [go_sem, ↓reduceIte, Nat.reduceEqDiff, Nat.reduceLT, Nat.reduceLeDiff, Nat.reduceAdd, Int.natCast_nonneg, Int.ofNat_lt, List.length_map, decide_true, decide_false, weaks_asks] <;> rfl) ?_
    refine RunO.live' [1, 2, 3] (by simp only [go_sem, ↓reduceIte, Nat.reduceEqDiff, Nat.reduceLT, Nat.reduceLeDiff, Nat.reduceAdd, Int.natCast_nonneg, Int.ofNat_lt, List.length_map, decide_true, decide_false, weaks_asks] <;> rfl) ?_
    refine Run.block ?_
    -- loop 1, live [1, 2, 3]
    refine Run.loop (fun e s' => ∃ (j : Nat) (out : List AskI) (kk : SK), e = [(1, .int .i64 k), (2, .sl kk (out.map AskI.pv)), (3, .int .i64 j)] ∧ Grows s' kk out.length 3 ∧ out.length = j ∧ j ≤ 90 ∧ ∀ a ∈ out, a.t ≤ 9223372036854775807) (fun e s' => 90 - ivar e 3) ?_ ?_
    · exact ⟨0, [], .nil, rfl, .inl ⟨rfl, rfl⟩, rfl, by omega, by simp⟩
    rintro e s3 ⟨j, out, kk, rfl, hgr, hsl, hj, hsome⟩
    refine Run.seq ?_
    refine Run.seq ?_
    refine Run.region ?_
    refine RunO.all (by simp only [go_sem, ↓reduceIte, Nat.reduceEqDiff, Nat.reduceLT, Nat.reduceLeDiff, Nat.reduceAdd, Int.natCast_nonneg, Int.ofNat_lt, List.length_map, decide_true, decide_false, weaks_asks] <;> rfl) ?_
    refine RunO.live' [1, 2, 3, 9] (by simp only [go_sem, ↓reduceIte, Nat.reduceEqDiff, Nat.reduceLT, Nat.reduceLeDiff, Nat.reduceAdd, Int.natCast_nonneg, Int.ofNat_lt, List.length_map, decide_true, decide_false, weaks_asks] <;> rfl) ?_
    refine Run.cond (by simp only [go_sem, ↓reduceIte, Nat.reduceEqDiff, Nat.reduceLT, Nat.reduceLeDiff, Nat.reduceAdd, Int.natCast_nonneg, Int.ofNat_lt, List.length_map, decide_true, decide_false, weaks_asks] <;> rfl) (fun hc1 => ?_) (fun hc1 => ?_)
    · have hc := hc1
      refine Run.skip ?_
      refine Run.seq ?_
      refine Run.block ?_
      have hj90 : j < 90 := by have := of_decide_eq_true hc1; omega
      have hw : IntKind.i64.wrap ((j : Int) + 1) = ((j + 1 : Nat) : Int) := by rw [wrap_i64 (by omega)]; omega
      refine Run.region ?_
      refine RunO.ops (pre := [_, _, _, _, _, _, _, _, _, _, _, _, _, _, _, _, _, _, _, _]) (by simp only [go_sem, ↓reduceIte, Nat.reduceEqDiff, Nat.reduceLT, Nat.reduceLeDiff, Nat.reduceAdd, Int.natCast_nonneg, Int.ofNat_lt, List.length_map, decide_true, decide_false, weaks_asks, hw] <;> rfl) ?_
      refine RunO.lit (by simp only [go_sem, ↓reduceIte, Nat.reduceEqDiff, Nat.reduceLT, Nat.reduceLeDiff, Nat.reduceAdd, Int.natCast_nonneg, Int.ofNat_lt, List.length_map, decide_true, decide_false, weaks_asks, hw] <;> rfl) (by simp only [go_sem, ↓reduceIte, Nat.reduceEqDiff, Nat.reduceLT, Nat.reduceLeDiff, Nat.reduceAdd, Int.natCast_nonneg, Int.ofNat_lt, List.length_map, decide_true, decide_false, weaks_asks, hw] <;> rfl) ?_
      refine RunO.grow (by simp only [go_sem, ↓reduceIte, Nat.reduceEqDiff, Nat.reduceLT, Nat.reduceLeDiff, Nat.reduceAdd, Int.natCast_nonneg, Int.ofNat_lt, List.length_map, decide_true, decide_false, weaks_asks, hw] <;> rfl) (by simp only [go_sem, ↓reduceIte, Nat.reduceEqDiff, Nat.reduceLT, Nat.reduceLeDiff, Nat.reduceAdd, Int.natCast_nonneg, Int.ofNat_lt, List.length_map, decide_true, decide_false, weaks_asks, hw] <;> rfl) (by simp only [go_sem, ↓reduceIte, Nat.reduceEqDiff, Nat.reduceLT, Nat.reduceLeDiff, Nat.reduceAdd, Int.natCast_nonneg, Int.ofNat_lt, List.length_map, decide_true, decide_false, weaks_asks, hw] <;> rfl) Try.td22 (by rw [Try.zp24]; rfl) (isEls_asks _) (isEls_asks [⟨(IntKind.i64.wrap (IntKind.i64.wrap ((j : Int) * (j : Int)) + (k : Int))).tmod 5, IntKind.i64.wrap ((IntKind.i64.wrap (IntKind.i64.wrap ((j : Int) * 7) + IntKind.i64.wrap ((k : Int) * (j : Int)))).tmod 23 - 3), (IntKind.i64.wrap ((j : Int) + (k : Int))).tmod 6⟩]) (by rw [Try.by24]; decide) (by rw [Try.by24]; simp; omega) (by rw [Try.cz24, List.length_map]; exact hgr) (by simp) ?_
      intro kk' s' hgr' htm
      refine RunO.all (by simp only [go_sem, ↓reduceIte, Nat.reduceEqDiff, Nat.reduceLT, Nat.reduceLeDiff, Nat.reduceAdd, Int.natCast_nonneg, Int.ofNat_lt, List.length_map, decide_true, decide_false, weaks_asks, hw] <;> rfl) ?_
      refine RunO.live' [1, 2, 3] (by simp only [go_sem, ↓reduceIte, Nat.reduceEqDiff, Nat.reduceLT, Nat.reduceLeDiff, Nat.reduceAdd, Int.natCast_nonneg, Int.ofNat_lt, List.length_map, decide_true, decide_false, weaks_asks, hw] <;> rfl) ?_
      refine Run.blk ?_
      refine Run.region ?_
      refine RunO.all (by simp only [go_sem, ↓reduceIte, Nat.reduceEqDiff, Nat.reduceLT, Nat.reduceLeDiff, Nat.reduceAdd, Int.natCast_nonneg, Int.ofNat_lt, List.length_map, decide_true, decide_false, weaks_asks, hw] <;> rfl) ?_
      refine RunO.live' [1, 2, 3] (by simp only [go_sem, ↓reduceIte, Nat.reduceEqDiff, Nat.reduceLT, Nat.reduceLeDiff, Nat.reduceAdd, Int.natCast_nonneg, Int.ofNat_lt, List.length_map, decide_true, decide_false, weaks_asks, hw] <;> rfl) ?_
      rw [Try.cz24] at hgr'
      refine Run.lp ⟨⟨j + 1, out ++ [⟨(IntKind.i64.wrap (IntKind.i64.wrap ((j : Int) * (j : Int)) + (k : Int))).tmod 5, IntKind.i64.wrap ((IntKind.i64.wrap (IntKind.i64.wrap ((j : Int) * 7) + IntKind.i64.wrap ((k : Int) * (j : Int)))).tmod 23 - 3), (IntKind.i64.wrap ((j : Int) + (k : Int))).tmod 6⟩], kk', by rw [List.map_append]; rfl, by simpa using hgr', by simp; omega, by omega, fun x hx => ?_⟩, ?_⟩
      · rcases List.mem_append.1 hx with h | h
        · exact hsome x h
        · rw [List.mem_singleton.1 h]
          exact (wrap_le _).2
      · simp only [ivar, go_sem, ↓reduceIte, Nat.reduceEqDiff]
        omega
    · have hc := hc1
      refine Run.exit ?_
      show Run _ _ _ _ _ _
      refine Run.seq ?_
      refine Run.region ?_
      refine RunO.ops (pre := [_]) (by simp only [go_sem, ↓reduceIte, Nat.reduceEqDiff, Nat.reduceLT, Nat.reduceLeDiff, Nat.reduceAdd, Int.natCast_nonneg, Int.ofNat_lt, List.length_map, decide_true, decide_false, weaks_asks] <;> rfl) ?_
      refine RunO.callw (by simp only [go_sem, ↓reduceIte, Nat.reduceEqDiff, Nat.reduceLT, Nat.reduceLeDiff, Nat.reduceAdd, Int.natCast_nonneg, Int.ofNat_lt, List.length_map, decide_true, decide_false, weaks_asks] <;> rfl) (by simp only [go_sem, ↓reduceIte, Nat.reduceEqDiff, Nat.reduceLT, Nat.reduceLeDiff, Nat.reduceAdd, Int.natCast_nonneg, Int.ofNat_lt, List.length_map, decide_true, decide_false, weaks_asks] <;> rfl) (by simp only [go_sem, ↓reduceIte, Nat.reduceEqDiff, Nat.reduceLT, Nat.reduceLeDiff, Nat.reduceAdd, Int.natCast_nonneg, Int.ofNat_lt, List.length_map, decide_true, decide_false, weaks_asks] <;> rfl) (by kernel_rfl) ((play_ hsome).mono ?_)
      rintro r1 s1 rfl
      refine RunO.all (by simp only [go_sem, ↓reduceIte, Nat.reduceEqDiff, Nat.reduceLT, Nat.reduceLeDiff, Nat.reduceAdd, Int.natCast_nonneg, Int.ofNat_lt, List.length_map, decide_true, decide_false, weaks_asks] <;> rfl) ?_
      refine RunO.live' [1, 36] (by simp only [go_sem, ↓reduceIte, Nat.reduceEqDiff, Nat.reduceLT, Nat.reduceLeDiff, Nat.reduceAdd, Int.natCast_nonneg, Int.ofNat_lt, List.length_map, decide_true, decide_false, weaks_asks] <;> rfl) ?_
      refine Run.cond (by simp only [go_sem, ↓reduceIte, Nat.reduceEqDiff, Nat.reduceLT, Nat.reduceLeDiff, Nat.reduceAdd, Int.natCast_nonneg, Int.ofNat_lt, List.length_map, decide_true, decide_false, weaks_asks] <;> rfl) (fun hc2 => ?_) (fun hc2 => ?_)
      · cases hc2
      · have hc := hc2
        refine Run.skip ?_
        refine Run.blk ?_
        have hk40 : k < 40 := by have := of_decide_eq_true hc0; omega
        have hw : IntKind.i64.wrap ((k : Int) + 1) = ((k + 1 : Nat) : Int) := by rw [wrap_i64 (by omega)]; omega
        refine Run.region ?_
        refine RunO.all (by simp only [go_sem, ↓reduceIte, Nat.reduceEqDiff, Nat.reduceLT, Nat.reduceLeDiff, Nat.reduceAdd, Int.natCast_nonneg, Int.ofNat_lt, List.length_map, decide_true, decide_false, weaks_asks, hw] <;> rfl) ?_
        refine RunO.live' [1] (by simp only [go_sem, ↓reduceIte, Nat.reduceEqDiff, Nat.reduceLT, Nat.reduceLeDiff, Nat.reduceAdd, Int.natCast_nonneg, Int.ofNat_lt, List.length_map, decide_true, decide_false, weaks_asks, hw] <;> rfl) ?_
        refine Run.lp ⟨⟨k + 1, rfl, by omega⟩, ?_⟩
        simp only [ivar, go_sem, ↓reduceIte, Nat.reduceEqDiff]
        omega
  · have hc := hc0
    refine Run.exit ?_
    show Run _ _ _ _ _ _
    refine Run.seq ?_
    refine Run.region ?_
    refine RunO.ops (pre := [_, _, _, _, _]) (by simp only [go_sem, ↓reduceIte, Nat.reduceEqDiff, Nat.reduceLT, Nat.reduceLeDiff, Nat.reduceAdd, Int.natCast_nonneg, Int.ofNat_lt, List.length_map, decide_true, decide_false, weaks_asks] <;> rfl) ?_
    refine RunO.lit (by simp only [go_sem, ↓reduceIte, Nat.reduceEqDiff, Nat.reduceLT, Nat.reduceLeDiff, Nat.reduceAdd, Int.natCast_nonneg, Int.ofNat_lt, List.length_map, decide_true, decide_false, weaks_asks] <;> rfl) (by simp only [go_sem, ↓reduceIte, Nat.reduceEqDiff, Nat.reduceLT, Nat.reduceLeDiff, Nat.reduceAdd, Int.natCast_nonneg, Int.ofNat_lt, List.length_map, decide_true, decide_false, weaks_asks] <;> rfl) ?_
    refine RunO.callw (by simp only [go_sem, ↓reduceIte, Nat.reduceEqDiff, Nat.reduceLT, Nat.reduceLeDiff, Nat.reduceAdd, Int.natCast_nonneg, Int.ofNat_lt, List.length_map, decide_true, decide_false, weaks_asks] <;> rfl) (by simp only [go_sem, ↓reduceIte, Nat.reduceEqDiff, Nat.reduceLT, Nat.reduceLeDiff, Nat.reduceAdd, Int.natCast_nonneg, Int.ofNat_lt, List.length_map, decide_true, decide_false, weaks_asks] <;> rfl) (by simp only [go_sem, ↓reduceIte, Nat.reduceEqDiff, Nat.reduceLT, Nat.reduceLeDiff, Nat.reduceAdd, Int.natCast_nonneg, Int.ofNat_lt, List.length_map, decide_true, decide_false, weaks_asks] <;> rfl) (by kernel_rfl) ((play_ (l := [⟨0, 9223372036854775807, 0⟩, ⟨0, -9223372036854775808, -9223372036854775808⟩, ⟨3, -9223372036854775808, 0⟩, ⟨3, 9223372036854775807, 0⟩, ⟨4, 0, 0⟩]) (by intro a ha; simp at ha; rcases ha with rfl | rfl | rfl | rfl | rfl <;> simp)).mono ?_)
    rintro r2 s2 rfl
    refine RunO.ops (pre := [_]) (by simp only [go_sem, ↓reduceIte, Nat.reduceEqDiff, Nat.reduceLT, Nat.reduceLeDiff, Nat.reduceAdd, Int.natCast_nonneg, Int.ofNat_lt, List.length_map, decide_true, decide_false, weaks_asks] <;> rfl) ?_
    refine RunO.bcase 44 (by simp only [go_sem, ↓reduceIte, Nat.reduceEqDiff, Nat.reduceLT, Nat.reduceLeDiff, Nat.reduceAdd, Int.natCast_nonneg, Int.ofNat_lt, List.length_map, decide_true, decide_false, weaks_asks] <;> rfl) (fun hg7 => ?_) (fun hg7 => ?_)
    · refine RunO.callw (by simp only [go_sem, ↓reduceIte, Nat.reduceEqDiff, Nat.reduceLT, Nat.reduceLeDiff, Nat.reduceAdd, Int.natCast_nonneg, Int.ofNat_lt, List.length_map, decide_true, decide_false, weaks_asks] <;> rfl) (by simp only [go_sem, ↓reduceIte, Nat.reduceEqDiff, Nat.reduceLT, Nat.reduceLeDiff, Nat.reduceAdd, Int.natCast_nonneg, Int.ofNat_lt, List.length_map, decide_true, decide_false, weaks_asks] <;> rfl) (by simp only [go_sem, ↓reduceIte, Nat.reduceEqDiff, Nat.reduceLT, Nat.reduceLeDiff, Nat.reduceAdd, Int.natCast_nonneg, Int.ofNat_lt, List.length_map, decide_true, decide_false, weaks_asks] <;> rfl) (by kernel_rfl) ((known_).mono ?_)
      rintro r13 s13 ⟨rfl, _, _⟩
      refine RunO.all (by simp only [go_sem, ↓reduceIte, Nat.reduceEqDiff, Nat.reduceLT, Nat.reduceLeDiff, Nat.reduceAdd, Int.natCast_nonneg, Int.ofNat_lt, List.length_map, decide_true, decide_false, weaks_asks] <;> rfl) ?_
      refine RunO.live' [0] (by simp only [go_sem, ↓reduceIte, Nat.reduceEqDiff, Nat.reduceLT, Nat.reduceLeDiff, Nat.reduceAdd, Int.natCast_nonneg, Int.ofNat_lt, List.length_map, decide_true, decide_false, weaks_asks] <;> rfl) ?_
      refine Run.ret ?_
      exact Ret.all (by simp only [Try.f3, go_sem] <;> rfl) rfl
    · cases hg7

end Go.Proofs
