import Derived.Test.YtegdcamfhldcoaaPmS
import Derived.Test.YtegdcamfhldcoaaPmT
namespace Go.Proofs
open Go.PM
set_option maxHeartbeats 1000000
set_option linter.unusedSimpArgs false
set_option linter.unusedVariables false

structure Item where
  tick : Int
  order : Int
  key : Int
  deriving DecidableEq

def Item.pv (x : Item) : PV := .agg [.int .i64 x.tick, .int .i64 x.order, .int .i64 x.key]

def cmp3 (a b : Int) : Int := if a < b then -1 else if b < a then 1 else 0
def Item.lt (a b : Item) : Bool := decide (a.tick < b.tick) || (decide (a.tick = b.tick) && decide (a.order < b.order))

theorem isNaN64 (a : Int) (s : St) : ACalls Try.prog 52 [.int .i64 a] s (fun r s' => r = .bool false ∧ s' = s) := by
  refine ACalls.body Try.func52 rfl (by simp [Try.f52]) (by decide) fun hwf => ?_
  show Run _ _ [.code _] _ _ _
  refine Run.seq ?_
  refine Run.region ?_
  refine RunO.all (by simp only [go_sem, ↓reduceIte, Nat.reduceEqDiff, Nat.reduceLT, Nat.reduceLeDiff, Nat.reduceAdd] <;> rfl) ?_
  refine RunO.live' [0] (by simp only [go_sem, ↓reduceIte, Nat.reduceEqDiff, Nat.reduceLT, Nat.reduceLeDiff, Nat.reduceAdd] <;> rfl) ?_
  refine Run.seq ?_
  refine Run.region ?_
  refine RunO.all (by simp only [go_sem, ↓reduceIte, Nat.reduceEqDiff, Nat.reduceLT, Nat.reduceLeDiff, Nat.reduceAdd] <;> rfl) ?_
  refine RunO.live' [2] (by simp only [go_sem, ↓reduceIte, Nat.reduceEqDiff, Nat.reduceLT, Nat.reduceLeDiff, Nat.reduceAdd] <;> rfl) ?_
  refine Run.ret ?_
  refine Ret.pure (by simp only [Try.f52, go_sem]; rfl) rfl (by simp only [go_sem]) hwf (fun i hi => ?_) ⟨?_, rfl⟩
  · have h0 : ∀ n, (i = s.nxt + n) = False := fun n => eq_false (by omega)
    have h1 : (i = s.nxt) = False := eq_false (by omega)
    try simp only [go_sem, h0, h1]
  · simp [PV.weak, go_sem]

theorem isNaN (a : Int) (s : St) : ACalls Try.prog 53 [.int .i64 a] s (fun r s' => r = .bool false ∧ s' = s) := by
  refine ACalls.body Try.func53 rfl (by simp [Try.f53]) (by decide) fun hwf => ?_
  show Run _ _ [.code _] _ _ _
  refine Run.seq ?_
  refine Run.region ?_
  refine RunO.all (by simp only [go_sem, ↓reduceIte, Nat.reduceEqDiff, Nat.reduceLT, Nat.reduceLeDiff, Nat.reduceAdd] <;> rfl) ?_
  refine RunO.live' [0] (by simp only [go_sem, ↓reduceIte, Nat.reduceEqDiff, Nat.reduceLT, Nat.reduceLeDiff, Nat.reduceAdd] <;> rfl) ?_
  refine Run.seq ?_
  refine Run.region ?_
  refine RunO.all (by simp only [go_sem, ↓reduceIte, Nat.reduceEqDiff, Nat.reduceLT, Nat.reduceLeDiff, Nat.reduceAdd] <;> rfl) ?_
  refine RunO.live' [2] (by simp only [go_sem, ↓reduceIte, Nat.reduceEqDiff, Nat.reduceLT, Nat.reduceLeDiff, Nat.reduceAdd] <;> rfl) ?_
  refine Run.ret ?_
  refine Ret.pure (by simp only [Try.f53, go_sem]; rfl) rfl (by simp only [go_sem]) hwf (fun i hi => ?_) ⟨?_, rfl⟩
  · have h0 : ∀ n, (i = s.nxt + n) = False := fun n => eq_false (by omega)
    have h1 : (i = s.nxt) = False := eq_false (by omega)
    try simp only [go_sem, h0, h1]
  · simp [PV.weak, go_sem]

theorem compare64 (a b : Int) (s : St) : ACalls Try.prog 50 [.int .i64 a, .int .i64 b] s (fun r s' => r = .int .i64 (cmp3 a b) ∧ s' = s) := by
  refine ACalls.body Try.func50 rfl (by simp [Try.f50]) (by decide) fun hwf => ?_
  show Run _ _ [.code _] _ _ _
  refine Run.seq ?_
  refine Run.region ?_
  refine RunO.all (by simp only [go_sem, ↓reduceIte, Nat.reduceEqDiff, Nat.reduceLT, Nat.reduceLeDiff, Nat.reduceAdd] <;> rfl) ?_
  refine RunO.live' [0, 1] (by simp only [go_sem, ↓reduceIte, Nat.reduceEqDiff, Nat.reduceLT, Nat.reduceLeDiff, Nat.reduceAdd] <;> rfl) ?_
  refine Run.seq ?_
  refine Run.region ?_
  refine RunO.ops (pre := [_]) (by simp only [go_sem, ↓reduceIte, Nat.reduceEqDiff, Nat.reduceLT, Nat.reduceLeDiff, Nat.reduceAdd] <;> rfl) ?_
  refine RunO.callw (by simp only [go_sem, ↓reduceIte, Nat.reduceEqDiff, Nat.reduceLT, Nat.reduceLeDiff, Nat.reduceAdd] <;> rfl) (by simp only [go_sem, ↓reduceIte, Nat.reduceEqDiff, Nat.reduceLT, Nat.reduceLeDiff, Nat.reduceAdd] <;> rfl) (by simp only [go_sem, ↓reduceIte, Nat.reduceEqDiff, Nat.reduceLT, Nat.reduceLeDiff, Nat.reduceAdd] <;> rfl) (by kernel_rfl) ((isNaN64 _ _).mono ?_)
  rintro r s' ⟨rfl, hs⟩
  subst s'
  refine RunO.all (by simp only [go_sem, ↓reduceIte, Nat.reduceEqDiff, Nat.reduceLT, Nat.reduceLeDiff, Nat.reduceAdd] <;> rfl) ?_
  refine RunO.live' [0, 1, 5] (by simp only [go_sem, ↓reduceIte, Nat.reduceEqDiff, Nat.reduceLT, Nat.reduceLeDiff, Nat.reduceAdd] <;> rfl) ?_
  refine Run.seq ?_
  refine Run.region ?_
  refine RunO.ops (pre := [_]) (by simp only [go_sem, ↓reduceIte, Nat.reduceEqDiff, Nat.reduceLT, Nat.reduceLeDiff, Nat.reduceAdd] <;> rfl) ?_
  refine RunO.callw (by simp only [go_sem, ↓reduceIte, Nat.reduceEqDiff, Nat.reduceLT, Nat.reduceLeDiff, Nat.reduceAdd] <;> rfl) (by simp only [go_sem, ↓reduceIte, Nat.reduceEqDiff, Nat.reduceLT, Nat.reduceLeDiff, Nat.reduceAdd] <;> rfl) (by simp only [go_sem, ↓reduceIte, Nat.reduceEqDiff, Nat.reduceLT, Nat.reduceLeDiff, Nat.reduceAdd] <;> rfl) (by kernel_rfl) ((isNaN64 _ _).mono ?_)
  rintro r s' ⟨rfl, hs⟩
  subst s'
  refine RunO.all (by simp only [go_sem, ↓reduceIte, Nat.reduceEqDiff, Nat.reduceLT, Nat.reduceLeDiff, Nat.reduceAdd] <;> rfl) ?_
  refine RunO.live' [0, 1, 5, 6] (by simp only [go_sem, ↓reduceIte, Nat.reduceEqDiff, Nat.reduceLT, Nat.reduceLeDiff, Nat.reduceAdd] <;> rfl) ?_
  refine Run.seq ?_
  refine Run.seq ?_
  refine Run.region ?_
  refine RunO.all (by simp only [go_sem, ↓reduceIte, Nat.reduceEqDiff, Nat.reduceLT, Nat.reduceLeDiff, Nat.reduceAdd] <;> rfl) ?_
  refine RunO.live' [0, 1, 6, 11] (by simp only [go_sem, ↓reduceIte, Nat.reduceEqDiff, Nat.reduceLT, Nat.reduceLeDiff, Nat.reduceAdd] <;> rfl) ?_
  refine Run.cond (by simp only [go_sem, ↓reduceIte, Nat.reduceEqDiff, Nat.reduceLT, Nat.reduceLeDiff, Nat.reduceAdd] <;> rfl) (fun hc0 => ?_) (fun hc0 => ?_)
  · have hc := hc0
    refine Run.seq ?_
    refine Run.seq ?_
    refine Run.region ?_
    refine RunO.all (by simp only [go_sem, ↓reduceIte, Nat.reduceEqDiff, Nat.reduceLT, Nat.reduceLeDiff, Nat.reduceAdd] <;> rfl) ?_
    refine RunO.live' [12] (by simp only [go_sem, ↓reduceIte, Nat.reduceEqDiff, Nat.reduceLT, Nat.reduceLeDiff, Nat.reduceAdd] <;> rfl) ?_
    refine Run.cond (by simp only [go_sem, ↓reduceIte, Nat.reduceEqDiff, Nat.reduceLT, Nat.reduceLeDiff, Nat.reduceAdd] <;> rfl) (fun hc1 => ?_) (fun hc1 => ?_)
    · have hc := hc1
      refine Run.seq ?_
      refine Run.region ?_
      refine RunO.all (by simp only [go_sem, ↓reduceIte, Nat.reduceEqDiff, Nat.reduceLT, Nat.reduceLeDiff, Nat.reduceAdd] <;> rfl) ?_
      refine RunO.live' [4] (by simp only [go_sem, ↓reduceIte, Nat.reduceEqDiff, Nat.reduceLT, Nat.reduceLeDiff, Nat.reduceAdd] <;> rfl) ?_
      refine Run.ret ?_
      refine Ret.pure (by simp only [Try.f50, go_sem]; rfl) rfl (by simp only [go_sem]) hwf (fun i hi => ?_) ⟨?_, rfl⟩
      · have h0 : ∀ n, (i = s.nxt + n) = False := fun n => eq_false (by omega)
        have h1 : (i = s.nxt) = False := eq_false (by omega)
        try simp only [go_sem, h0, h1]
      · have hc2 := hc
        clear hwf
        simp_all [PV.weak, cmp3] <;> omega
    · have hc := hc1
      refine Run.skip ?_
      refine Run.seq ?_
      refine Run.region ?_
      refine RunO.all (by simp only [go_sem, ↓reduceIte, Nat.reduceEqDiff, Nat.reduceLT, Nat.reduceLeDiff, Nat.reduceAdd] <;> rfl) ?_
      refine RunO.live' [4] (by simp only [go_sem, ↓reduceIte, Nat.reduceEqDiff, Nat.reduceLT, Nat.reduceLeDiff, Nat.reduceAdd] <;> rfl) ?_
      refine Run.ret ?_
      refine Ret.pure (by simp only [Try.f50, go_sem]; rfl) rfl (by simp only [go_sem]) hwf (fun i hi => ?_) ⟨?_, rfl⟩
      · have h0 : ∀ n, (i = s.nxt + n) = False := fun n => eq_false (by omega)
        have h1 : (i = s.nxt) = False := eq_false (by omega)
        try simp only [go_sem, h0, h1]
      · have hc2 := hc
        clear hwf
        simp_all [PV.weak, cmp3] <;> omega
  · have hc := hc0
    refine Run.skip ?_
    refine Run.seq ?_
    refine Run.seq ?_
    refine Run.region ?_
    refine RunO.all (by simp only [go_sem, ↓reduceIte, Nat.reduceEqDiff, Nat.reduceLT, Nat.reduceLeDiff, Nat.reduceAdd] <;> rfl) ?_
    refine RunO.live' [0, 1, 13] (by simp only [go_sem, ↓reduceIte, Nat.reduceEqDiff, Nat.reduceLT, Nat.reduceLeDiff, Nat.reduceAdd] <;> rfl) ?_
    refine Run.cond (by simp only [go_sem, ↓reduceIte, Nat.reduceEqDiff, Nat.reduceLT, Nat.reduceLeDiff, Nat.reduceAdd] <;> rfl) (fun hc2 => ?_) (fun hc2 => ?_)
    · have hc := hc2
      refine Run.seq ?_
      refine Run.region ?_
      refine RunO.all (by simp only [go_sem, ↓reduceIte, Nat.reduceEqDiff, Nat.reduceLT, Nat.reduceLeDiff, Nat.reduceAdd] <;> rfl) ?_
      refine RunO.live' [4] (by simp only [go_sem, ↓reduceIte, Nat.reduceEqDiff, Nat.reduceLT, Nat.reduceLeDiff, Nat.reduceAdd] <;> rfl) ?_
      refine Run.ret ?_
      refine Ret.pure (by simp only [Try.f50, go_sem]; rfl) rfl (by simp only [go_sem]) hwf (fun i hi => ?_) ⟨?_, rfl⟩
      · have h0 : ∀ n, (i = s.nxt + n) = False := fun n => eq_false (by omega)
        have h1 : (i = s.nxt) = False := eq_false (by omega)
        try simp only [go_sem, h0, h1]
      · have hc2 := hc
        clear hwf
        simp_all [PV.weak, cmp3] <;> omega
    · have hc := hc2
      refine Run.skip ?_
      refine Run.seq ?_
      refine Run.seq ?_
      refine Run.region ?_
      refine RunO.all (by simp only [go_sem, ↓reduceIte, Nat.reduceEqDiff, Nat.reduceLT, Nat.reduceLeDiff, Nat.reduceAdd] <;> rfl) ?_
      refine RunO.live' [0, 1, 16] (by simp only [go_sem, ↓reduceIte, Nat.reduceEqDiff, Nat.reduceLT, Nat.reduceLeDiff, Nat.reduceAdd] <;> rfl) ?_
      refine Run.cond (by simp only [go_sem, ↓reduceIte, Nat.reduceEqDiff, Nat.reduceLT, Nat.reduceLeDiff, Nat.reduceAdd] <;> rfl) (fun hc3 => ?_) (fun hc3 => ?_)
      · have hc := hc3
        refine Run.seq ?_
        refine Run.region ?_
        refine RunO.all (by simp only [go_sem, ↓reduceIte, Nat.reduceEqDiff, Nat.reduceLT, Nat.reduceLeDiff, Nat.reduceAdd] <;> rfl) ?_
        refine RunO.live' [4] (by simp only [go_sem, ↓reduceIte, Nat.reduceEqDiff, Nat.reduceLT, Nat.reduceLeDiff, Nat.reduceAdd] <;> rfl) ?_
        refine Run.ret ?_
        refine Ret.pure (by simp only [Try.f50, go_sem]; rfl) rfl (by simp only [go_sem]) hwf (fun i hi => ?_) ⟨?_, rfl⟩
        · have h0 : ∀ n, (i = s.nxt + n) = False := fun n => eq_false (by omega)
          have h1 : (i = s.nxt) = False := eq_false (by omega)
          try simp only [go_sem, h0, h1]
        · have hc2 := hc
          clear hwf
          simp_all [PV.weak, cmp3] <;> omega
      · have hc := hc3
        refine Run.skip ?_
        refine Run.seq ?_
        refine Run.seq ?_
        refine Run.region ?_
        refine RunO.all (by simp only [go_sem, ↓reduceIte, Nat.reduceEqDiff, Nat.reduceLT, Nat.reduceLeDiff, Nat.reduceAdd] <;> rfl) ?_
        refine RunO.live' [19] (by simp only [go_sem, ↓reduceIte, Nat.reduceEqDiff, Nat.reduceLT, Nat.reduceLeDiff, Nat.reduceAdd] <;> rfl) ?_
        refine Run.cond (by simp only [go_sem, ↓reduceIte, Nat.reduceEqDiff, Nat.reduceLT, Nat.reduceLeDiff, Nat.reduceAdd] <;> rfl) (fun hc4 => ?_) (fun hc4 => ?_)
        · have hc := hc4
          refine Run.seq ?_
          refine Run.region ?_
          refine RunO.all (by simp only [go_sem, ↓reduceIte, Nat.reduceEqDiff, Nat.reduceLT, Nat.reduceLeDiff, Nat.reduceAdd] <;> rfl) ?_
          refine RunO.live' [4] (by simp only [go_sem, ↓reduceIte, Nat.reduceEqDiff, Nat.reduceLT, Nat.reduceLeDiff, Nat.reduceAdd] <;> rfl) ?_
          refine Run.ret ?_
          refine Ret.pure (by simp only [Try.f50, go_sem]; rfl) rfl (by simp only [go_sem]) hwf (fun i hi => ?_) ⟨?_, rfl⟩
          · have h0 : ∀ n, (i = s.nxt + n) = False := fun n => eq_false (by omega)
            have h1 : (i = s.nxt) = False := eq_false (by omega)
            try simp only [go_sem, h0, h1]
          · have hc2 := hc
            clear hwf
            simp_all [PV.weak, cmp3] <;> omega
        · have hc := hc4
          refine Run.skip ?_
          refine Run.seq ?_
          refine Run.region ?_
          refine RunO.all (by simp only [go_sem, ↓reduceIte, Nat.reduceEqDiff, Nat.reduceLT, Nat.reduceLeDiff, Nat.reduceAdd] <;> rfl) ?_
          refine RunO.live' [4] (by simp only [go_sem, ↓reduceIte, Nat.reduceEqDiff, Nat.reduceLT, Nat.reduceLeDiff, Nat.reduceAdd] <;> rfl) ?_
          refine Run.ret ?_
          refine Ret.pure (by simp only [Try.f50, go_sem]; rfl) rfl (by simp only [go_sem]) hwf (fun i hi => ?_) ⟨?_, rfl⟩
          · have h0 : ∀ n, (i = s.nxt + n) = False := fun n => eq_false (by omega)
            have h1 : (i = s.nxt) = False := eq_false (by omega)
            try simp only [go_sem, h0, h1]
          · have hc2 := hc
            clear hwf
            simp_all [PV.weak, cmp3] <;> omega

theorem compare (a b : Int) (s : St) : ACalls Try.prog 51 [.int .i64 a, .int .i64 b] s (fun r s' => r = .int .i64 (cmp3 a b) ∧ s' = s) := by
  refine ACalls.body Try.func51 rfl (by simp [Try.f51]) (by decide) fun hwf => ?_
  show Run _ _ [.code _] _ _ _
  refine Run.seq ?_
  refine Run.region ?_
  refine RunO.all (by simp only [go_sem, ↓reduceIte, Nat.reduceEqDiff, Nat.reduceLT, Nat.reduceLeDiff, Nat.reduceAdd] <;> rfl) ?_
  refine RunO.live' [0, 1] (by simp only [go_sem, ↓reduceIte, Nat.reduceEqDiff, Nat.reduceLT, Nat.reduceLeDiff, Nat.reduceAdd] <;> rfl) ?_
  refine Run.seq ?_
  refine Run.region ?_
  refine RunO.ops (pre := [_]) (by simp only [go_sem, ↓reduceIte, Nat.reduceEqDiff, Nat.reduceLT, Nat.reduceLeDiff, Nat.reduceAdd] <;> rfl) ?_
  refine RunO.callw (by simp only [go_sem, ↓reduceIte, Nat.reduceEqDiff, Nat.reduceLT, Nat.reduceLeDiff, Nat.reduceAdd] <;> rfl) (by simp only [go_sem, ↓reduceIte, Nat.reduceEqDiff, Nat.reduceLT, Nat.reduceLeDiff, Nat.reduceAdd] <;> rfl) (by simp only [go_sem, ↓reduceIte, Nat.reduceEqDiff, Nat.reduceLT, Nat.reduceLeDiff, Nat.reduceAdd] <;> rfl) (by kernel_rfl) ((isNaN _ _).mono ?_)
  rintro r s' ⟨rfl, hs⟩
  subst s'
  refine RunO.all (by simp only [go_sem, ↓reduceIte, Nat.reduceEqDiff, Nat.reduceLT, Nat.reduceLeDiff, Nat.reduceAdd] <;> rfl) ?_
  refine RunO.live' [0, 1, 5] (by simp only [go_sem, ↓reduceIte, Nat.reduceEqDiff, Nat.reduceLT, Nat.reduceLeDiff, Nat.reduceAdd] <;> rfl) ?_
  refine Run.seq ?_
  refine Run.region ?_
  refine RunO.ops (pre := [_]) (by simp only [go_sem, ↓reduceIte, Nat.reduceEqDiff, Nat.reduceLT, Nat.reduceLeDiff, Nat.reduceAdd] <;> rfl) ?_
  refine RunO.callw (by simp only [go_sem, ↓reduceIte, Nat.reduceEqDiff, Nat.reduceLT, Nat.reduceLeDiff, Nat.reduceAdd] <;> rfl) (by simp only [go_sem, ↓reduceIte, Nat.reduceEqDiff, Nat.reduceLT, Nat.reduceLeDiff, Nat.reduceAdd] <;> rfl) (by simp only [go_sem, ↓reduceIte, Nat.reduceEqDiff, Nat.reduceLT, Nat.reduceLeDiff, Nat.reduceAdd] <;> rfl) (by kernel_rfl) ((isNaN _ _).mono ?_)
  rintro r s' ⟨rfl, hs⟩
  subst s'
  refine RunO.all (by simp only [go_sem, ↓reduceIte, Nat.reduceEqDiff, Nat.reduceLT, Nat.reduceLeDiff, Nat.reduceAdd] <;> rfl) ?_
  refine RunO.live' [0, 1, 5, 6] (by simp only [go_sem, ↓reduceIte, Nat.reduceEqDiff, Nat.reduceLT, Nat.reduceLeDiff, Nat.reduceAdd] <;> rfl) ?_
  refine Run.seq ?_
  refine Run.seq ?_
  refine Run.region ?_
  refine RunO.all (by simp only [go_sem, ↓reduceIte, Nat.reduceEqDiff, Nat.reduceLT, Nat.reduceLeDiff, Nat.reduceAdd] <;> rfl) ?_
  refine RunO.live' [0, 1, 6, 11] (by simp only [go_sem, ↓reduceIte, Nat.reduceEqDiff, Nat.reduceLT, Nat.reduceLeDiff, Nat.reduceAdd] <;> rfl) ?_
  refine Run.cond (by simp only [go_sem, ↓reduceIte, Nat.reduceEqDiff, Nat.reduceLT, Nat.reduceLeDiff, Nat.reduceAdd] <;> rfl) (fun hc0 => ?_) (fun hc0 => ?_)
  · have hc := hc0
    refine Run.seq ?_
    refine Run.seq ?_
    refine Run.region ?_
    refine RunO.all (by simp only [go_sem, ↓reduceIte, Nat.reduceEqDiff, Nat.reduceLT, Nat.reduceLeDiff, Nat.reduceAdd] <;> rfl) ?_
    refine RunO.live' [12] (by simp only [go_sem, ↓reduceIte, Nat.reduceEqDiff, Nat.reduceLT, Nat.reduceLeDiff, Nat.reduceAdd] <;> rfl) ?_
    refine Run.cond (by simp only [go_sem, ↓reduceIte, Nat.reduceEqDiff, Nat.reduceLT, Nat.reduceLeDiff, Nat.reduceAdd] <;> rfl) (fun hc1 => ?_) (fun hc1 => ?_)
    · have hc := hc1
      refine Run.seq ?_
      refine Run.region ?_
      refine RunO.all (by simp only [go_sem, ↓reduceIte, Nat.reduceEqDiff, Nat.reduceLT, Nat.reduceLeDiff, Nat.reduceAdd] <;> rfl) ?_
      refine RunO.live' [4] (by simp only [go_sem, ↓reduceIte, Nat.reduceEqDiff, Nat.reduceLT, Nat.reduceLeDiff, Nat.reduceAdd] <;> rfl) ?_
      refine Run.ret ?_
      refine Ret.pure (by simp only [Try.f51, go_sem]; rfl) rfl (by simp only [go_sem]) hwf (fun i hi => ?_) ⟨?_, rfl⟩
      · have h0 : ∀ n, (i = s.nxt + n) = False := fun n => eq_false (by omega)
        have h1 : (i = s.nxt) = False := eq_false (by omega)
        try simp only [go_sem, h0, h1]
      · have hc2 := hc
        clear hwf
        simp_all [PV.weak, cmp3] <;> omega
    · have hc := hc1
      refine Run.skip ?_
      refine Run.seq ?_
      refine Run.region ?_
      refine RunO.all (by simp only [go_sem, ↓reduceIte, Nat.reduceEqDiff, Nat.reduceLT, Nat.reduceLeDiff, Nat.reduceAdd] <;> rfl) ?_
      refine RunO.live' [4] (by simp only [go_sem, ↓reduceIte, Nat.reduceEqDiff, Nat.reduceLT, Nat.reduceLeDiff, Nat.reduceAdd] <;> rfl) ?_
      refine Run.ret ?_
      refine Ret.pure (by simp only [Try.f51, go_sem]; rfl) rfl (by simp only [go_sem]) hwf (fun i hi => ?_) ⟨?_, rfl⟩
      · have h0 : ∀ n, (i = s.nxt + n) = False := fun n => eq_false (by omega)
        have h1 : (i = s.nxt) = False := eq_false (by omega)
        try simp only [go_sem, h0, h1]
      · have hc2 := hc
        clear hwf
        simp_all [PV.weak, cmp3] <;> omega
  · have hc := hc0
    refine Run.skip ?_
    refine Run.seq ?_
    refine Run.seq ?_
    refine Run.region ?_
    refine RunO.all (by simp only [go_sem, ↓reduceIte, Nat.reduceEqDiff, Nat.reduceLT, Nat.reduceLeDiff, Nat.reduceAdd] <;> rfl) ?_
    refine RunO.live' [0, 1, 13] (by simp only [go_sem, ↓reduceIte, Nat.reduceEqDiff, Nat.reduceLT, Nat.reduceLeDiff, Nat.reduceAdd] <;> rfl) ?_
    refine Run.cond (by simp only [go_sem, ↓reduceIte, Nat.reduceEqDiff, Nat.reduceLT, Nat.reduceLeDiff, Nat.reduceAdd] <;> rfl) (fun hc2 => ?_) (fun hc2 => ?_)
    · have hc := hc2
      refine Run.seq ?_
      refine Run.region ?_
      refine RunO.all (by simp only [go_sem, ↓reduceIte, Nat.reduceEqDiff, Nat.reduceLT, Nat.reduceLeDiff, Nat.reduceAdd] <;> rfl) ?_
      refine RunO.live' [4] (by simp only [go_sem, ↓reduceIte, Nat.reduceEqDiff, Nat.reduceLT, Nat.reduceLeDiff, Nat.reduceAdd] <;> rfl) ?_
      refine Run.ret ?_
      refine Ret.pure (by simp only [Try.f51, go_sem]; rfl) rfl (by simp only [go_sem]) hwf (fun i hi => ?_) ⟨?_, rfl⟩
      · have h0 : ∀ n, (i = s.nxt + n) = False := fun n => eq_false (by omega)
        have h1 : (i = s.nxt) = False := eq_false (by omega)
        try simp only [go_sem, h0, h1]
      · have hc2 := hc
        clear hwf
        simp_all [PV.weak, cmp3] <;> omega
    · have hc := hc2
      refine Run.skip ?_
      refine Run.seq ?_
      refine Run.seq ?_
      refine Run.region ?_
      refine RunO.all (by simp only [go_sem, ↓reduceIte, Nat.reduceEqDiff, Nat.reduceLT, Nat.reduceLeDiff, Nat.reduceAdd] <;> rfl) ?_
      refine RunO.live' [0, 1, 16] (by simp only [go_sem, ↓reduceIte, Nat.reduceEqDiff, Nat.reduceLT, Nat.reduceLeDiff, Nat.reduceAdd] <;> rfl) ?_
      refine Run.cond (by simp only [go_sem, ↓reduceIte, Nat.reduceEqDiff, Nat.reduceLT, Nat.reduceLeDiff, Nat.reduceAdd] <;> rfl) (fun hc3 => ?_) (fun hc3 => ?_)
      · have hc := hc3
        refine Run.seq ?_
        refine Run.region ?_
        refine RunO.all (by simp only [go_sem, ↓reduceIte, Nat.reduceEqDiff, Nat.reduceLT, Nat.reduceLeDiff, Nat.reduceAdd] <;> rfl) ?_
        refine RunO.live' [4] (by simp only [go_sem, ↓reduceIte, Nat.reduceEqDiff, Nat.reduceLT, Nat.reduceLeDiff, Nat.reduceAdd] <;> rfl) ?_
        refine Run.ret ?_
        refine Ret.pure (by simp only [Try.f51, go_sem]; rfl) rfl (by simp only [go_sem]) hwf (fun i hi => ?_) ⟨?_, rfl⟩
        · have h0 : ∀ n, (i = s.nxt + n) = False := fun n => eq_false (by omega)
          have h1 : (i = s.nxt) = False := eq_false (by omega)
          try simp only [go_sem, h0, h1]
        · have hc2 := hc
          clear hwf
          simp_all [PV.weak, cmp3] <;> omega
      · have hc := hc3
        refine Run.skip ?_
        refine Run.seq ?_
        refine Run.seq ?_
        refine Run.region ?_
        refine RunO.all (by simp only [go_sem, ↓reduceIte, Nat.reduceEqDiff, Nat.reduceLT, Nat.reduceLeDiff, Nat.reduceAdd] <;> rfl) ?_
        refine RunO.live' [19] (by simp only [go_sem, ↓reduceIte, Nat.reduceEqDiff, Nat.reduceLT, Nat.reduceLeDiff, Nat.reduceAdd] <;> rfl) ?_
        refine Run.cond (by simp only [go_sem, ↓reduceIte, Nat.reduceEqDiff, Nat.reduceLT, Nat.reduceLeDiff, Nat.reduceAdd] <;> rfl) (fun hc4 => ?_) (fun hc4 => ?_)
        · have hc := hc4
          refine Run.seq ?_
          refine Run.region ?_
          refine RunO.all (by simp only [go_sem, ↓reduceIte, Nat.reduceEqDiff, Nat.reduceLT, Nat.reduceLeDiff, Nat.reduceAdd] <;> rfl) ?_
          refine RunO.live' [4] (by simp only [go_sem, ↓reduceIte, Nat.reduceEqDiff, Nat.reduceLT, Nat.reduceLeDiff, Nat.reduceAdd] <;> rfl) ?_
          refine Run.ret ?_
          refine Ret.pure (by simp only [Try.f51, go_sem]; rfl) rfl (by simp only [go_sem]) hwf (fun i hi => ?_) ⟨?_, rfl⟩
          · have h0 : ∀ n, (i = s.nxt + n) = False := fun n => eq_false (by omega)
            have h1 : (i = s.nxt) = False := eq_false (by omega)
            try simp only [go_sem, h0, h1]
          · have hc2 := hc
            clear hwf
            simp_all [PV.weak, cmp3] <;> omega
        · have hc := hc4
          refine Run.skip ?_
          refine Run.seq ?_
          refine Run.region ?_
          refine RunO.all (by simp only [go_sem, ↓reduceIte, Nat.reduceEqDiff, Nat.reduceLT, Nat.reduceLeDiff, Nat.reduceAdd] <;> rfl) ?_
          refine RunO.live' [4] (by simp only [go_sem, ↓reduceIte, Nat.reduceEqDiff, Nat.reduceLT, Nat.reduceLeDiff, Nat.reduceAdd] <;> rfl) ?_
          refine Run.ret ?_
          refine Ret.pure (by simp only [Try.f51, go_sem]; rfl) rfl (by simp only [go_sem]) hwf (fun i hi => ?_) ⟨?_, rfl⟩
          · have h0 : ∀ n, (i = s.nxt + n) = False := fun n => eq_false (by omega)
            have h1 : (i = s.nxt) = False := eq_false (by omega)
            try simp only [go_sem, h0, h1]
          · have hc2 := hc
            clear hwf
            simp_all [PV.weak, cmp3] <;> omega

theorem or2 (a b : Int) (s : St) : ACalls Try.prog 49 [.sl .unk [.int .i64 a, .int .i64 b]] s (fun r s' => r = .int .i64 (if a = 0 then b else a) ∧ s' = s) := by
  refine ACalls.body Try.func49 rfl (by simp [Try.f49]) (by decide) fun hwf => ?_
  show Run _ _ [.code _] _ _ _
  refine Run.seq ?_
  refine Run.region ?_
  refine RunO.all (by simp only [go_sem, ↓reduceIte, Nat.reduceEqDiff, Nat.reduceLT, Nat.reduceLeDiff, Nat.reduceAdd] <;> rfl) ?_
  refine RunO.live' [0] (by simp only [go_sem, ↓reduceIte, Nat.reduceEqDiff, Nat.reduceLT, Nat.reduceLeDiff, Nat.reduceAdd] <;> rfl) ?_
  refine Run.seq ?_
  refine Run.region ?_
  refine RunO.all (by simp only [go_sem, ↓reduceIte, Nat.reduceEqDiff, Nat.reduceLT, Nat.reduceLeDiff, Nat.reduceAdd] <;> rfl) ?_
  refine RunO.live' [0, 3] (by simp only [go_sem, ↓reduceIte, Nat.reduceEqDiff, Nat.reduceLT, Nat.reduceLeDiff, Nat.reduceAdd] <;> rfl) ?_
  refine Run.seq ?_
  refine Run.seq ?_
  refine Run.region ?_
  refine RunO.all (by simp only [go_sem, ↓reduceIte, Nat.reduceEqDiff, Nat.reduceLT, Nat.reduceLeDiff, Nat.reduceAdd] <;> rfl) ?_
  refine RunO.live' [3, 6, 7, 8] (by simp only [go_sem, ↓reduceIte, Nat.reduceEqDiff, Nat.reduceLT, Nat.reduceLeDiff, Nat.reduceAdd] <;> rfl) ?_
  refine Run.block ?_
  -- loop 0, live [3, 6, 7, 8]
  refine Run.loop (fun e s' => s' = s ∧ ∃ i : Nat, (i = 0 ∨ a = 0 ∧ i = 1 ∨ a = 0 ∧ b = 0 ∧ i = 2) ∧ e = [(3, .int .i64 0), (6, .sl .unk [.int .i64 a, .int .i64 b]), (7, .int .i64 2), (8, .int .i64 i)]) (fun e s' => 2 - ivar e 8) ?_ ?_
  · exact ⟨rfl, 0, .inl rfl, rfl⟩
  rintro e s' ⟨hs, i, hi, rfl⟩
  subst s'
  refine Run.seq ?_
  refine Run.region ?_
  refine RunO.all (by simp only [go_sem, ↓reduceIte, Nat.reduceEqDiff, Nat.reduceLT, Nat.reduceLeDiff, Nat.reduceAdd] <;> rfl) ?_
  refine RunO.live' [3, 6, 7, 8, 9] (by simp only [go_sem, ↓reduceIte, Nat.reduceEqDiff, Nat.reduceLT, Nat.reduceLeDiff, Nat.reduceAdd] <;> rfl) ?_
  refine Run.seq ?_
  refine Run.cond (by simp only [go_sem, ↓reduceIte, Nat.reduceEqDiff, Nat.reduceLT, Nat.reduceLeDiff, Nat.reduceAdd] <;> rfl) (fun hc0 => ?_) (fun hc0 => ?_)
  · have hc := hc0
    refine Run.skip ?_
    refine Run.seq ?_
    refine Run.block ?_
    refine Run.seq ?_
    have hi2 : i < 2 := by have := of_decide_eq_true hc; omega
    obtain ⟨c, hx, hcv⟩ : ∃ c, [PV.int .i64 a, .int .i64 b][i]? = some (.int .i64 c) ∧ (i = 0 ∧ c = a ∨ i = 1 ∧ c = b) := by
      rcases (by omega : i = 0 ∨ i = 1) with rfl | rfl
      · exact ⟨a, rfl, .inl ⟨rfl, rfl⟩⟩
      · exact ⟨b, rfl, .inr ⟨rfl, rfl⟩⟩
    refine Run.region ?_
    refine RunO.all (by simp only [go_sem, ↓reduceIte, Nat.reduceEqDiff, Nat.reduceLT, Nat.reduceLeDiff, Nat.reduceAdd, hx, Int.natCast_nonneg, Nat.lt_irrefl, Nat.reduceLT, Nat.lt_add_one] <;> rfl) ?_
    refine RunO.live' [3, 5, 6, 7, 8] (by simp only [go_sem, ↓reduceIte, Nat.reduceEqDiff, Nat.reduceLT, Nat.reduceLeDiff, Nat.reduceAdd, hx, Int.natCast_nonneg, Nat.lt_irrefl, Nat.reduceLT, Nat.lt_add_one] <;> rfl) ?_
    refine Run.seq ?_
    refine Run.region ?_
    refine RunO.all (by simp only [go_sem, ↓reduceIte, Nat.reduceEqDiff, Nat.reduceLT, Nat.reduceLeDiff, Nat.reduceAdd, hx, Int.natCast_nonneg, Nat.lt_irrefl, Nat.reduceLT, Nat.lt_add_one] <;> rfl) ?_
    refine RunO.live' [3, 5, 6, 7, 8, 14] (by simp only [go_sem, ↓reduceIte, Nat.reduceEqDiff, Nat.reduceLT, Nat.reduceLeDiff, Nat.reduceAdd, hx, Int.natCast_nonneg, Nat.lt_irrefl, Nat.reduceLT, Nat.lt_add_one] <;> rfl) ?_
    refine Run.cond (by simp only [go_sem, ↓reduceIte, Nat.reduceEqDiff, Nat.reduceLT, Nat.reduceLeDiff, Nat.reduceAdd, hx, Int.natCast_nonneg, Nat.lt_irrefl, Nat.reduceLT, Nat.lt_add_one] <;> rfl) (fun hc1 => ?_) (fun hc1 => ?_)
    · have hc := hc1
      refine Run.seq ?_
      refine Run.region ?_
      refine RunO.all (by simp only [go_sem, ↓reduceIte, Nat.reduceEqDiff, Nat.reduceLT, Nat.reduceLeDiff, Nat.reduceAdd, hx, Int.natCast_nonneg, Nat.lt_irrefl, Nat.reduceLT, Nat.lt_add_one] <;> rfl) ?_
      refine RunO.live' [2] (by simp only [go_sem, ↓reduceIte, Nat.reduceEqDiff, Nat.reduceLT, Nat.reduceLeDiff, Nat.reduceAdd, hx, Int.natCast_nonneg, Nat.lt_irrefl, Nat.reduceLT, Nat.lt_add_one] <;> rfl) ?_
      refine Run.ret ?_
      refine Ret.pure (by simp only [Try.f49, go_sem]; rfl) rfl (by simp only [go_sem]) hwf (fun i hi => ?_) ⟨?_, rfl⟩
      · have h0 : ∀ n, (i = s.nxt + n) = False := fun n => eq_false (by omega)
        have h1 : (i = s.nxt) = False := eq_false (by omega)
        try simp only [go_sem, h0, h1]
      · have e : ∀ x y : Int, x = y → (PV.int .i64 x).weak = PV.int .i64 y := fun x y h => by rw [h]; rfl
        refine e _ _ ?_
        simp at hc
        split <;> omega
    · have hc := hc1
      refine Run.skip ?_
      refine Run.blk ?_
      refine Run.region ?_
      refine RunO.all (by simp only [go_sem, ↓reduceIte, Nat.reduceEqDiff, Nat.reduceLT, Nat.reduceLeDiff, Nat.reduceAdd, hx, Int.natCast_nonneg, Nat.lt_irrefl, Nat.reduceLT, Nat.lt_add_one] <;> rfl) ?_
      refine RunO.live' [3, 6, 7, 8] (by simp only [go_sem, ↓reduceIte, Nat.reduceEqDiff, Nat.reduceLT, Nat.reduceLeDiff, Nat.reduceAdd, hx, Int.natCast_nonneg, Nat.lt_irrefl, Nat.reduceLT, Nat.lt_add_one] <;> rfl) ?_
      refine Run.lp ⟨⟨rfl, i + 1, ?_, ?_⟩, ?_⟩
      · simp at hc
        omega
      · rw [show IntKind.i64.wrap ((i : Int) + 1) = ((i + 1 : Nat) : Int) by rw [wrap_i64 (by omega)]; omega]
      · simp only [ivar, go_sem, ↓reduceIte, Nat.reduceEqDiff]
        rw [wrap_i64 (by omega)]
        omega
  · have hc := hc0
    refine Run.exit ?_
    show Run _ _ _ _ _ _
    refine Run.seq ?_
    refine Run.region ?_
    refine RunO.all (by simp only [go_sem, ↓reduceIte, Nat.reduceEqDiff, Nat.reduceLT, Nat.reduceLeDiff, Nat.reduceAdd] <;> rfl) ?_
    refine RunO.live' [2] (by simp only [go_sem, ↓reduceIte, Nat.reduceEqDiff, Nat.reduceLT, Nat.reduceLeDiff, Nat.reduceAdd] <;> rfl) ?_
    refine Run.ret ?_
    refine Ret.pure (by simp only [Try.f49, go_sem]; rfl) rfl (by simp only [go_sem]) hwf (fun i hi => ?_) ⟨?_, rfl⟩
    · have h0 : ∀ n, (i = s.nxt + n) = False := fun n => eq_false (by omega)
      have h1 : (i = s.nxt) = False := eq_false (by omega)
      try simp only [go_sem, h0, h1]
    · have e : ∀ x y : Int, x = y → (PV.int .i64 x).weak = PV.int .i64 y := fun x y h => by rw [h]; rfl
      refine e _ _ ?_
      simp at hc
      split <;> omega

theorem less (a b : Item) (s : St) : ACalls Try.prog 48 [a.pv, b.pv] s (fun r s' => r = .bool (a.lt b) ∧ s' = s) := by
  refine ACalls.body Try.func48 rfl (by simp [Try.f48]) (by decide) fun hwf => ?_
  show Run _ _ [.code _] _ _ _
  refine Run.seq ?_
  refine Run.region ?_
  refine RunO.all (by simp only [go_sem, ↓reduceIte, Nat.reduceEqDiff, Nat.reduceLT, Nat.reduceLeDiff, Nat.reduceAdd, Item.pv] <;> rfl) ?_
  refine RunO.live' [2, 3] (by simp only [go_sem, ↓reduceIte, Nat.reduceEqDiff, Nat.reduceLT, Nat.reduceLeDiff, Nat.reduceAdd, Item.pv] <;> rfl) ?_
  refine Run.seq ?_
  refine Run.drawC [] [4] Try.mixed (by kernel_rfl) ?_
  refine DetC.pre (pre := [_, _, _, _]) (by simp only [go_sem, ↓reduceIte, Nat.reduceEqDiff, Nat.reduceLT, Nat.reduceLeDiff, Nat.reduceAdd, Item.pv] <;> rfl) ?_
  refine DetC.call (by simp only [go_sem, ↓reduceIte, Nat.reduceEqDiff, Nat.reduceLT, Nat.reduceLeDiff, Nat.reduceAdd, Item.pv] <;> rfl) (by simp only [go_sem, ↓reduceIte, Nat.reduceEqDiff, Nat.reduceLT, Nat.reduceLeDiff, Nat.reduceAdd, Item.pv] <;> rfl) (by simp only [go_sem, ↓reduceIte, Nat.reduceEqDiff, Nat.reduceLT, Nat.reduceLeDiff, Nat.reduceAdd, Item.pv] <;> rfl) (by kernel_rfl) (compare64 _ _ _) ?_
  refine DetC.pre (pre := [_, _, _, _]) (by simp only [go_sem, ↓reduceIte, Nat.reduceEqDiff, Nat.reduceLT, Nat.reduceLeDiff, Nat.reduceAdd, Item.pv] <;> rfl) ?_
  refine DetC.call (by simp only [go_sem, ↓reduceIte, Nat.reduceEqDiff, Nat.reduceLT, Nat.reduceLeDiff, Nat.reduceAdd, Item.pv] <;> rfl) (by simp only [go_sem, ↓reduceIte, Nat.reduceEqDiff, Nat.reduceLT, Nat.reduceLeDiff, Nat.reduceAdd, Item.pv] <;> rfl) (by simp only [go_sem, ↓reduceIte, Nat.reduceEqDiff, Nat.reduceLT, Nat.reduceLeDiff, Nat.reduceAdd, Item.pv] <;> rfl) (by kernel_rfl) (compare _ _ _) ?_
  refine DetC.pre (pre := [_]) (by simp only [go_sem, ↓reduceIte, Nat.reduceEqDiff, Nat.reduceLT, Nat.reduceLeDiff, Nat.reduceAdd, Item.pv] <;> rfl) ?_
  refine DetC.call (by simp only [go_sem, ↓reduceIte, Nat.reduceEqDiff, Nat.reduceLT, Nat.reduceLeDiff, Nat.reduceAdd, Item.pv] <;> rfl) (by simp only [go_sem, ↓reduceIte, Nat.reduceEqDiff, Nat.reduceLT, Nat.reduceLeDiff, Nat.reduceAdd, Item.pv] <;> rfl) (by simp only [go_sem, ↓reduceIte, Nat.reduceEqDiff, Nat.reduceLT, Nat.reduceLeDiff, Nat.reduceAdd, Item.pv] <;> rfl) (by kernel_rfl) (or2 _ _ _) ?_
  refine DetC.all (by simp only [go_sem, ↓reduceIte, Nat.reduceEqDiff, Nat.reduceLT, Nat.reduceLeDiff, Nat.reduceAdd, Item.pv] <;> rfl) ?_
  refine Run.envEq' (by simp only [go_sem, ↓reduceIte, Nat.reduceEqDiff, Nat.reduceLT, Nat.reduceLeDiff, Nat.reduceAdd, Item.pv] <;> rfl) ?_
  refine Run.ret ?_
  refine Ret.pure (by simp only [Try.f48, go_sem]; rfl) rfl (by simp only [go_sem]) hwf (fun i hi => ?_) ⟨?_, rfl⟩
  · have h0 : ∀ n, (i = s.nxt + n) = False := fun n => eq_false (by omega)
    have h1 : (i = s.nxt) = False := eq_false (by omega)
    try simp only [go_sem, h0, h1]
  · have e : ∀ x y : Bool, x = y → (PV.bool x).weak = PV.bool y := fun x y h => by rw [h]; rfl
    refine e _ _ ?_
    simp only [cmp3, Item.lt]
    clear hwf
    by_cases h1 : a.tick < b.tick <;> by_cases h2 : b.tick < a.tick <;> by_cases h3 : a.order < b.order <;> by_cases h4 : b.order < a.order <;> by_cases h5 : a.tick = b.tick <;> simp [h1, h2, h3, h4, h5] <;> omega

theorem items_Less {L n i j : Nat} {els : List PV} {x y : Item} {s : St} (hL : s.blk L = some (.row 37 els)) (hx : els[i]? = some x.pv) (hy : els[j]? = some y.pv) (hi : i < n) (hj : j < n) :
    ACalls Try.prog 46 [.own L 0 n, .int .i64 i, .int .i64 j] s (fun r s' => r = .bool (x.lt y) ∧ s' = s) := by
  refine ACalls.body Try.func46 rfl (by simp [Try.f46]) (by decide) fun hwf => ?_
  show Run _ _ [.code _] _ _ _
  refine Run.seq ?_
  refine Run.region ?_
  refine RunO.all (by simp only [go_sem, ↓reduceIte, Nat.reduceEqDiff, Nat.reduceLT, Nat.reduceLeDiff, Nat.reduceAdd, Item.pv, hL, hx, hy, Int.natCast_nonneg, Int.ofNat_lt, hi, hj, Nat.lt_add_one] <;> rfl) ?_
  refine RunO.live' [0, 1, 2] (by simp only [go_sem, ↓reduceIte, Nat.reduceEqDiff, Nat.reduceLT, Nat.reduceLeDiff, Nat.reduceAdd, Item.pv, hL, hx, hy, Int.natCast_nonneg, Int.ofNat_lt, hi, hj, Nat.lt_add_one] <;> rfl) ?_
  refine Run.seq ?_
  refine Run.drawC [] [6] Try.mixed (by kernel_rfl) ?_
  refine DetC.pre (pre := [_, _, _, _, _, _, _, _]) (by simp only [go_sem, ↓reduceIte, Nat.reduceEqDiff, Nat.reduceLT, Nat.reduceLeDiff, Nat.reduceAdd, Item.pv, hL, hx, hy, Int.natCast_nonneg, Int.ofNat_lt, hi, hj, Nat.lt_add_one] <;> rfl) ?_
  refine DetC.call (by simp only [go_sem, ↓reduceIte, Nat.reduceEqDiff, Nat.reduceLT, Nat.reduceLeDiff, Nat.reduceAdd, Item.pv, hL, hx, hy, Int.natCast_nonneg, Int.ofNat_lt, hi, hj, Nat.lt_add_one] <;> rfl) (by simp only [go_sem, ↓reduceIte, Nat.reduceEqDiff, Nat.reduceLT, Nat.reduceLeDiff, Nat.reduceAdd, Item.pv, hL, hx, hy, Int.natCast_nonneg, Int.ofNat_lt, hi, hj, Nat.lt_add_one] <;> rfl) (by simp only [go_sem, ↓reduceIte, Nat.reduceEqDiff, Nat.reduceLT, Nat.reduceLeDiff, Nat.reduceAdd, Item.pv, hL, hx, hy, Int.natCast_nonneg, Int.ofNat_lt, hi, hj, Nat.lt_add_one] <;> rfl) (by kernel_rfl) (less _ _ _) ?_
  refine DetC.all (by simp only [go_sem, ↓reduceIte, Nat.reduceEqDiff, Nat.reduceLT, Nat.reduceLeDiff, Nat.reduceAdd, Item.pv, hL, hx, hy, Int.natCast_nonneg, Int.ofNat_lt, hi, hj, Nat.lt_add_one] <;> rfl) ?_
  refine Run.envEq' (by simp only [go_sem, ↓reduceIte, Nat.reduceEqDiff, Nat.reduceLT, Nat.reduceLeDiff, Nat.reduceAdd, Item.pv, hL, hx, hy, Int.natCast_nonneg, Int.ofNat_lt, hi, hj, Nat.lt_add_one] <;> rfl) ?_
  refine Run.ret ?_
  refine Ret.pure (by simp only [Try.f46, go_sem]; rfl) rfl (by simp only [go_sem]) hwf (fun i hi => ?_) ⟨?_, rfl⟩
  · have h0 : ∀ n, (i = s.nxt + n) = False := fun n => eq_false (by omega)
    have h1 : (i = s.nxt) = False := eq_false (by omega)
    try simp only [go_sem, h0, h1]
  · simp [PV.weak, go_sem]

theorem items_Len {L n : Nat} {s : St} : ACalls Try.prog 45 [.own L 0 n] s (fun r s' => r = .int .i64 n ∧ s' = s) := by
  refine ACalls.body Try.func45 rfl (by simp [Try.f45]) (by decide) fun hwf => ?_
  show Run _ _ [.code _] _ _ _
  refine Run.seq ?_
  refine Run.region ?_
  refine RunO.all (by simp only [go_sem, ↓reduceIte, Nat.reduceEqDiff, Nat.reduceLT, Nat.reduceLeDiff, Nat.reduceAdd] <;> rfl) ?_
  refine RunO.live' [0] (by simp only [go_sem, ↓reduceIte, Nat.reduceEqDiff, Nat.reduceLT, Nat.reduceLeDiff, Nat.reduceAdd] <;> rfl) ?_
  refine Run.seq ?_
  refine Run.region ?_
  refine RunO.all (by simp only [go_sem, ↓reduceIte, Nat.reduceEqDiff, Nat.reduceLT, Nat.reduceLeDiff, Nat.reduceAdd] <;> rfl) ?_
  refine RunO.live' [2] (by simp only [go_sem, ↓reduceIte, Nat.reduceEqDiff, Nat.reduceLT, Nat.reduceLeDiff, Nat.reduceAdd] <;> rfl) ?_
  refine Run.ret ?_
  refine Ret.pure (by simp only [Try.f45, go_sem]; rfl) rfl (by simp only [go_sem]) hwf (fun i hi => ?_) ⟨?_, rfl⟩
  · have h0 : ∀ n, (i = s.nxt + n) = False := fun n => eq_false (by omega)
    have h1 : (i = s.nxt) = False := eq_false (by omega)
    try simp only [go_sem, h0, h1]
  · simp [PV.weak, go_sem]

theorem items_Swap {L n i j : Nat} {els : List PV} {x y : Item} {s : St} (hL : s.blk L = some (.row 37 els)) (hx : els[i]? = some x.pv) (hy : els[j]? = some y.pv) (hi : i < n) (hj : j < n) :
    ACalls Try.prog 47 [.own L 0 n, .int .i64 i, .int .i64 j] s (fun r s' => s' = s.set L (some (.row 37 ((els.set i y.pv).set j x.pv)))) := by
  refine ACalls.body Try.func47 rfl (by simp [Try.f47]) (by decide) fun hwf => ?_
  show Run _ _ [.code _] _ _ _
  have hy2 : (els.set i y.pv)[j]? = some y.pv := by
    rw [List.getElem?_set]
    split
    · rename_i e
      subst e
      simp [(List.getElem?_eq_some_iff.1 hy).1]
    · exact hy
  have px : x.pv = .agg [.int .i64 x.tick, .int .i64 x.order, .int .i64 x.key] := rfl
  have py : y.pv = .agg [.int .i64 y.tick, .int .i64 y.order, .int .i64 y.key] := rfl
  simp only [px, py] at hx hy hy2 ⊢
  refine Run.drawC [13, 15] [] Try.mixed (by kernel_rfl) ?_
  refine DetC.pre (pre := [_, _, _, _, _, _, _, _, _, _, _, _, _]) (by simp only [go_sem, ↓reduceIte, Nat.reduceEqDiff, Nat.reduceLT, Nat.reduceLeDiff, Nat.reduceAdd, hL, hx, hy, hy2, px, py, Int.natCast_nonneg, Int.ofNat_lt, hi, hj, Nat.lt_add_one, Nat.le_refl, set_set] <;> rfl) ?_
  refine DetC.eff (by decide) (by simp only [go_sem, ↓reduceIte, Nat.reduceEqDiff, Nat.reduceLT, Nat.reduceLeDiff, Nat.reduceAdd, hL, hx, hy, hy2, px, py, Int.natCast_nonneg, Int.ofNat_lt, hi, hj, Nat.lt_add_one, Nat.le_refl, set_set] <;> rfl) (by simp only [go_sem, ↓reduceIte, Nat.reduceEqDiff, Nat.reduceLT, Nat.reduceLeDiff, Nat.reduceAdd, hL, hx, hy, hy2, px, py, Int.natCast_nonneg, Int.ofNat_lt, hi, hj, Nat.lt_add_one, Nat.le_refl, set_set] <;> rfl) ?_
  refine DetC.pre (pre := [_]) (by simp only [go_sem, ↓reduceIte, Nat.reduceEqDiff, Nat.reduceLT, Nat.reduceLeDiff, Nat.reduceAdd, hL, hx, hy, hy2, px, py, Int.natCast_nonneg, Int.ofNat_lt, hi, hj, Nat.lt_add_one, Nat.le_refl, set_set] <;> rfl) ?_
  refine DetC.eff (by decide) (by simp only [go_sem, ↓reduceIte, Nat.reduceEqDiff, Nat.reduceLT, Nat.reduceLeDiff, Nat.reduceAdd, hL, hx, hy, hy2, px, py, Int.natCast_nonneg, Int.ofNat_lt, hi, hj, Nat.lt_add_one, Nat.le_refl, set_set] <;> rfl) (by simp only [go_sem, ↓reduceIte, Nat.reduceEqDiff, Nat.reduceLT, Nat.reduceLeDiff, Nat.reduceAdd, hL, hx, hy, hy2, px, py, Int.natCast_nonneg, Int.ofNat_lt, hi, hj, Nat.lt_add_one, Nat.le_refl, set_set] <;> rfl) ?_
  refine DetC.nil ?_
  refine Run.envEq' (by simp only [go_sem, ↓reduceIte, Nat.reduceEqDiff, Nat.reduceLT, Nat.reduceLeDiff, Nat.reduceAdd, hL, hx, hy, hy2, px, py, Int.natCast_nonneg, Int.ofNat_lt, hi, hj, Nat.lt_add_one, Nat.le_refl, set_set] <;> rfl) ?_
  refine Run.nil ?_
  refine Ret.all (by simp only [Try.f47, go_sem] <;> rfl) ?_
  rfl

end Go.Proofs
