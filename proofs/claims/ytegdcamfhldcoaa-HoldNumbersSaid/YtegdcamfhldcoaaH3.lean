import Derived.Test.YtegdcamfhldcoaaH2
import Derived.Test.YtegdcamfhldcoaaPmX
namespace Go.Proofs
open Go.PM
set_option maxHeartbeats 1000000
set_option linter.unusedSimpArgs false
set_option linter.unusedVariables false

/-- a hold's own: what waits, the next number, where its list lies -/
def HoldAt (s : St) (h : Nat) (xs : List Item) (next : Int) : Option Nat → Prop
  | none => xs = [] ∧ s.blk h = some (.row 51 [.agg [.sl .nil [], .int .i64 next]])
  | some L => h ≠ L ∧ ∃ zs, s.blk h = some (.row 51 [.agg [.own L 0 xs.length, .int .i64 next]]) ∧ s.blk L = some (.row 37 (zs.map Item.pv)) ∧ xs.length ≤ zs.length ∧ zs.take xs.length = xs ∧ HeapF (at0 zs) xs.length 0

theorem isEls_items (l : List Item) : isEls Try.prog 37 (l.map Item.pv) := isEls_map (fun a => ⟨rfl, by rw [Try.cz37]; rfl⟩) l

def outlen : PV → Nat
  | .sl _ l => l.length
  | _ => 0

theorem weaks_items (l : List Item) : PV.weaks (l.map Item.pv) = l.map Item.pv := weaks_map_id Item.pv (fun _ => rfl) l

theorem mem_take_at0 {l : List Item} {n : Nat} {b : Item} (h : b ∈ l.take n) : ∃ k, k < n ∧ b = at0 l k := by
  obtain ⟨k, hk, e⟩ := List.mem_iff_getElem.1 h
  simp only [List.length_take] at hk
  refine ⟨k, by omega, ?_⟩
  rw [← e]
  unfold at0
  rw [List.getElem_take, List.getElem?_eq_getElem (by omega)]
  rfl

theorem HeapF.least {l : List Item} {n : Nat} {b : Item} (h : HeapF (at0 l) n 0) (hb : b ∈ l.take n) : b.lt (at0 l 0) = false := by
  obtain ⟨k, hk, rfl⟩ := mem_take_at0 hb
  exact h.root k hk

theorem tick_le {a b : Item} (h : a.lt b = false) : b.tick ≤ a.tick := by
  simp only [Item.lt, Bool.or_eq_false_iff, Bool.and_eq_false_iff, decide_eq_false_iff_not] at h
  omega

structure Moves (s s' : St) (h : Nat) (L L' : Option Nat) : Prop where
  nxt : s.nxt ≤ s'.nxt
  rest : ∀ i, i < s.nxt → i ≠ h → L ≠ some i → s'.blk i = s.blk i
  fresh : ∀ l, L' = some l → L = some l ∨ s.nxt ≤ l

theorem Moves.trans {s s1 s2 : St} {h : Nat} {L L1 L2 : Option Nat} (a : Moves s s1 h L L1) (b : Moves s1 s2 h L1 L2) : Moves s s2 h L L2 where
  nxt := Nat.le_trans a.nxt b.nxt
  rest := fun i hi h1 h2 => by
    rw [b.rest i (Nat.lt_of_lt_of_le hi a.nxt) h1 (fun e => ?_), a.rest i hi h1 h2]
    rcases a.fresh i e with h3 | h3
    · exact h2 h3
    · omega
  fresh := fun l e => by
    rcases b.fresh l e with h3 | h3
    · exact a.fresh l h3
    · exact .inr (Nat.le_trans a.nxt h3)

theorem hold_New {s : St} : ACalls Try.prog 11 [] s (fun r s' => r = .ptr s.nxt 0 0 ∧ HoldAt s' s.nxt [] 0 none ∧ s.nxt < s'.nxt ∧ ∀ i, i < s.nxt → s'.blk i = s.blk i) := by
  refine ACalls.body Try.func11 rfl (by simp [Try.f11]) (by decide) fun hwf => ?_
  show Run _ _ [.code _] _ _ _
  refine Run.seq ?_
  refine Run.region ?_
  refine RunO.all (by simp only [go_sem, ↓reduceIte, Nat.reduceEqDiff, Nat.reduceLT, Nat.reduceLeDiff, Nat.reduceAdd] <;> rfl) ?_
  refine RunO.live' [] (by simp only [go_sem, ↓reduceIte, Nat.reduceEqDiff, Nat.reduceLT, Nat.reduceLeDiff, Nat.reduceAdd] <;> rfl) ?_
  refine Run.seq ?_
  refine Run.region ?_
  refine RunO.all (by simp only [go_sem, ↓reduceIte, Nat.reduceEqDiff, Nat.reduceLT, Nat.reduceLeDiff, Nat.reduceAdd] <;> rfl) ?_
  refine RunO.live' [0] (by simp only [go_sem, ↓reduceIte, Nat.reduceEqDiff, Nat.reduceLT, Nat.reduceLeDiff, Nat.reduceAdd] <;> rfl) ?_
  refine Run.ret ?_
  refine Ret.all (by simp only [Try.f11, go_sem] <;> rfl) ⟨rfl, ⟨rfl, ?_⟩, ?_, fun i hi => ?_⟩
  · simp only [go_sem, ↓reduceIte]
  · simp only [go_sem]; omega
  · have h3 : (i = s.nxt) = False := eq_false (by omega)
    simp only [go_sem, ↓reduceIte, h3]

theorem len_own {s : St} {h L n : Nat} {nx : PV} (hh : s.blk h = some (.row 51 [.agg [.own L 0 n, nx]])) : ACalls Try.prog 14 [.ptr h 0 0] s (fun r s' => r = .int .i64 n ∧ s' = s) := by
  refine ACalls.body Try.func14 rfl (by simp [Try.f14]) (by decide) fun hwf => ?_
  show Run _ _ [.code _] _ _ _
  refine Run.seq ?_
  refine Run.region ?_
  refine RunO.all (by simp only [go_sem, ↓reduceIte, Nat.reduceEqDiff, Nat.reduceLT, Nat.reduceLeDiff, Nat.reduceAdd, hh] <;> rfl) ?_
  refine RunO.live' [0] (by simp only [go_sem, ↓reduceIte, Nat.reduceEqDiff, Nat.reduceLT, Nat.reduceLeDiff, Nat.reduceAdd, hh] <;> rfl) ?_
  refine Run.seq ?_
  refine Run.region ?_
  refine RunO.all (by simp only [go_sem, ↓reduceIte, Nat.reduceEqDiff, Nat.reduceLT, Nat.reduceLeDiff, Nat.reduceAdd, hh] <;> rfl) ?_
  refine RunO.live' [2] (by simp only [go_sem, ↓reduceIte, Nat.reduceEqDiff, Nat.reduceLT, Nat.reduceLeDiff, Nat.reduceAdd, hh] <;> rfl) ?_
  refine Run.ret ?_
  refine Ret.pure (by simp only [Try.f14, go_sem]; rfl) rfl (by simp only [go_sem]) hwf (fun i hi => ?_) ⟨?_, rfl⟩
  · have h0 : ∀ n, (i = s.nxt + n) = False := fun n => eq_false (by omega)
    have h1 : (i = s.nxt) = False := eq_false (by omega)
    try simp only [go_sem, h0, h1]
  · simp [PV.weak, go_sem]

theorem len_nil {s : St} {h : Nat} {nx : PV} (hh : s.blk h = some (.row 51 [.agg [.sl .nil [], nx]])) : ACalls Try.prog 14 [.ptr h 0 0] s (fun r s' => r = .int .i64 0 ∧ s' = s) := by
  refine ACalls.body Try.func14 rfl (by simp [Try.f14]) (by decide) fun hwf => ?_
  show Run _ _ [.code _] _ _ _
  refine Run.seq ?_
  refine Run.region ?_
  refine RunO.all (by simp only [go_sem, ↓reduceIte, Nat.reduceEqDiff, Nat.reduceLT, Nat.reduceLeDiff, Nat.reduceAdd, hh] <;> rfl) ?_
  refine RunO.live' [0] (by simp only [go_sem, ↓reduceIte, Nat.reduceEqDiff, Nat.reduceLT, Nat.reduceLeDiff, Nat.reduceAdd, hh] <;> rfl) ?_
  refine Run.seq ?_
  refine Run.region ?_
  refine RunO.all (by simp only [go_sem, ↓reduceIte, Nat.reduceEqDiff, Nat.reduceLT, Nat.reduceLeDiff, Nat.reduceAdd, hh] <;> rfl) ?_
  refine RunO.live' [2] (by simp only [go_sem, ↓reduceIte, Nat.reduceEqDiff, Nat.reduceLT, Nat.reduceLeDiff, Nat.reduceAdd, hh] <;> rfl) ?_
  refine Run.ret ?_
  refine Ret.pure (by simp only [Try.f14, go_sem]; rfl) rfl (by simp only [go_sem]) hwf (fun i hi => ?_) ⟨?_, rfl⟩
  · have h0 : ∀ n, (i = s.nxt + n) = False := fun n => eq_false (by omega)
    have h1 : (i = s.nxt) = False := eq_false (by omega)
    try simp only [go_sem, h0, h1]
  · simp [PV.weak, go_sem]


theorem hold_Len {s : St} {h : Nat} {xs : List Item} {next : Int} {L : Option Nat} (hH : HoldAt s h xs next L) : ACalls Try.prog 14 [.ptr h 0 0] s (fun r s' => r = .int .i64 xs.length ∧ s' = s) := by
  cases L with
  | none => obtain ⟨rfl, h2⟩ := hH; exact len_nil h2
  | some L => obtain ⟨_, zs, h2, _⟩ := hH; exact len_own h2

theorem first_own {s : St} {h L n : Nat} {zs : List Item} {nx : PV} (hh : s.blk h = some (.row 51 [.agg [.own L 0 n, nx]])) (hL : s.blk L = some (.row 37 (zs.map Item.pv))) (hn : n ≤ zs.length) : ACalls Try.prog 19 [.ptr h 0 0] s (fun r s' => r = .tuple [if n = 0 then (⟨0, 0, 0⟩ : Item).pv else (at0 zs 0).pv, .bool (decide (n ≠ 0))] ∧ s' = s) := by
  refine ACalls.body Try.func19 rfl (by simp [Try.f19]) (by decide) fun hwf => ?_
  show Run _ _ [.code _] _ _ _
  have hlt := lt_of_blk hwf hh
  have hLt := lt_of_blk hwf hL
  have hh0 : (h = s.nxt) = False := eq_false (by omega)
  have hl0 : (L = s.nxt) = False := eq_false (by omega)
  have hk0 : (s.nxt = h) = False := eq_false (by omega)
  have hk2 : (s.nxt = L) = False := eq_false (by omega)
  have px : (at0 zs 0).pv = .agg [.int .i64 (at0 zs 0).tick, .int .i64 (at0 zs 0).order, .int .i64 (at0 zs 0).key] := rfl
  refine Run.seq ?_
  refine Run.region ?_
  refine RunO.all (by simp only [go_sem, ↓reduceIte, Nat.reduceEqDiff, Nat.reduceLT, Nat.reduceLeDiff, Nat.reduceAdd, hh, hL, hh0, hl0, hk0, hk2, Int.natCast_nonneg, Int.ofNat_lt, Nat.lt_add_one, Nat.le_refl, Int.le_refl] <;> rfl) ?_
  refine RunO.live' [0, 2] (by simp only [go_sem, ↓reduceIte, Nat.reduceEqDiff, Nat.reduceLT, Nat.reduceLeDiff, Nat.reduceAdd, hh, hL, hh0, hl0, hk0, hk2, Int.natCast_nonneg, Int.ofNat_lt, Nat.lt_add_one, Nat.le_refl, Int.le_refl] <;> rfl) ?_
  refine Run.seq ?_
  refine Run.seq ?_
  refine Run.region ?_
  refine RunO.all (by simp only [go_sem, ↓reduceIte, Nat.reduceEqDiff, Nat.reduceLT, Nat.reduceLeDiff, Nat.reduceAdd, hh, hL, hh0, hl0, hk0, hk2, Int.natCast_nonneg, Int.ofNat_lt, Nat.lt_add_one, Nat.le_refl, Int.le_refl] <;> rfl) ?_
  refine RunO.live' [0, 2, 9] (by simp only [go_sem, ↓reduceIte, Nat.reduceEqDiff, Nat.reduceLT, Nat.reduceLeDiff, Nat.reduceAdd, hh, hL, hh0, hl0, hk0, hk2, Int.natCast_nonneg, Int.ofNat_lt, Nat.lt_add_one, Nat.le_refl, Int.le_refl] <;> rfl) ?_
  refine Run.cond (by simp only [go_sem, ↓reduceIte, Nat.reduceEqDiff, Nat.reduceLT, Nat.reduceLeDiff, Nat.reduceAdd, hh, hL, hh0, hl0, hk0, hk2, Int.natCast_nonneg, Int.ofNat_lt, Nat.lt_add_one, Nat.le_refl, Int.le_refl] <;> rfl) (fun hc0 => ?_) (fun hc0 => ?_)
  · have hc := hc0
    refine Run.seq ?_
    refine Run.region ?_
    refine RunO.all (by simp only [go_sem, ↓reduceIte, Nat.reduceEqDiff, Nat.reduceLT, Nat.reduceLeDiff, Nat.reduceAdd, hh, hL, hh0, hl0, hk0, hk2, Int.natCast_nonneg, Int.ofNat_lt, Nat.lt_add_one, Nat.le_refl, Int.le_refl] <;> rfl) ?_
    refine RunO.live' [2, 3] (by simp only [go_sem, ↓reduceIte, Nat.reduceEqDiff, Nat.reduceLT, Nat.reduceLeDiff, Nat.reduceAdd, hh, hL, hh0, hl0, hk0, hk2, Int.natCast_nonneg, Int.ofNat_lt, Nat.lt_add_one, Nat.le_refl, Int.le_refl] <;> rfl) ?_
    refine Run.ret ?_
    refine Ret.pure (by simp only [Try.f19, go_sem, hk0, hk2, Int.reduceToNat, ↓reduceIte] <;> rfl) rfl (by simp only [go_sem]) hwf (fun i hi => ?_) ⟨?_, rfl⟩
    · have h1 : (i = s.nxt) = False := eq_false (by omega)
      try simp only [go_sem, h1]
    · first
        | (have hn0 : n = 0 := by simp at hc0; omega
           subst hn0; rfl)
        | (rw [if_neg (by omega), px, decide_eq_true (by omega : n ≠ 0)]; rfl)
  · have hc := hc0
    refine Run.skip ?_
    refine Run.seq ?_
    have hn0 : 0 < n := by simp at hc0; omega
    have hn1 : ((0 : Int) < (n : Int)) = True := eq_true (by omega)
    have hx : (zs.map Item.pv)[0]? = some (.agg [.int .i64 (at0 zs 0).tick, .int .i64 (at0 zs 0).order, .int .i64 (at0 zs 0).key]) := map_at0 (by omega)
    refine Run.region ?_
    refine RunO.all (by simp only [go_sem, ↓reduceIte, Nat.reduceEqDiff, Nat.reduceLT, Nat.reduceLeDiff, Nat.reduceAdd, hh, hL, hh0, hl0, hk0, hk2, Int.natCast_nonneg, Int.ofNat_lt, Nat.lt_add_one, Nat.le_refl, Int.le_refl, hn1, hx, Int.toNat_zero] <;> rfl) ?_
    refine RunO.live' [2, 3] (by simp only [go_sem, ↓reduceIte, Nat.reduceEqDiff, Nat.reduceLT, Nat.reduceLeDiff, Nat.reduceAdd, hh, hL, hh0, hl0, hk0, hk2, Int.natCast_nonneg, Int.ofNat_lt, Nat.lt_add_one, Nat.le_refl, Int.le_refl, hn1, hx, Int.toNat_zero] <;> rfl) ?_
    refine Run.ret ?_
    refine Ret.pure (by simp only [Try.f19, go_sem, hk0, hk2, Int.reduceToNat, ↓reduceIte] <;> rfl) rfl (by simp only [go_sem]) hwf (fun i hi => ?_) ⟨?_, rfl⟩
    · have h1 : (i = s.nxt) = False := eq_false (by omega)
      try simp only [go_sem, h1]
    · first
        | (have hn0 : n = 0 := by simp at hc0; omega
           subst hn0; rfl)
        | (rw [if_neg (by omega), px, decide_eq_true (by omega : n ≠ 0)]; rfl)

theorem put_own {h L n : Nat} {zs : List Item} {next tick key : Int} {s : St} (hh : s.blk h = some (.row 51 [.agg [.own L 0 n, .int .i64 next]])) (hL : s.blk L = some (.row 37 (zs.map Item.pv))) (hne : h ≠ L) (hn : n ≤ zs.length) (hsz : n < 1000000)
    (hnx : 0 ≤ next ∧ next < 1000000) (hheap : HeapF (at0 zs) n 0) : ACalls Try.prog 12 [.ptr h 0 0, .int .i64 tick, .int .i64 key] s (fun r s' => r = .int .i64 next ∧ ∃ L' ys, s.nxt ≤ L' ∧ s'.blk h = some (.row 51 [.agg [.own L' 0 (n + 1), .int .i64 (next + 1)]]) ∧ s'.blk L' = some (.row 37 (ys.map Item.pv)) ∧
      ys.length = n + 1 ∧ ys.Perm (zs.take n ++ [⟨tick, next, key⟩]) ∧ HeapF (at0 ys) (n + 1) 0 ∧ s.nxt ≤ s'.nxt ∧ ∀ i, i < s.nxt → i ≠ h → i ≠ L → s'.blk i = s.blk i) := by
  refine ACalls.body Try.func12 rfl (by simp [Try.f12]) (by decide) fun hwf => ?_
  show Run _ _ [.code _] _ _ _
  have hlt := lt_of_blk hwf hh
  have hw : IntKind.i64.wrap (next + 1) = next + 1 := wrap_i64 (by omega)
  refine Run.seq ?_
  refine Run.region ?_
  refine RunO.all (by simp only [go_sem, ↓reduceIte, Nat.reduceEqDiff, Nat.reduceLT, Nat.reduceLeDiff, Nat.reduceAdd, hh, hw] <;> rfl) ?_
  refine RunO.live' [0, 1, 2] (by simp only [go_sem, ↓reduceIte, Nat.reduceEqDiff, Nat.reduceLT, Nat.reduceLeDiff, Nat.reduceAdd, hh, hw] <;> rfl) ?_
  refine Run.seq ?_
  refine Run.region ?_
  refine RunO.all (by simp only [go_sem, ↓reduceIte, Nat.reduceEqDiff, Nat.reduceLT, Nat.reduceLeDiff, Nat.reduceAdd, hh, hw] <;> rfl) ?_
  refine RunO.live' [0, 1, 2, 7] (by simp only [go_sem, ↓reduceIte, Nat.reduceEqDiff, Nat.reduceLT, Nat.reduceLeDiff, Nat.reduceAdd, hh, hw] <;> rfl) ?_
  refine Run.seq ?_
  refine Run.region ?_
  refine RunO.all (by simp only [go_sem, ↓reduceIte, Nat.reduceEqDiff, Nat.reduceLT, Nat.reduceLeDiff, Nat.reduceAdd, hh, hw] <;> rfl) ?_
  refine RunO.live' [0, 1, 2, 7] (by simp only [go_sem, ↓reduceIte, Nat.reduceEqDiff, Nat.reduceLT, Nat.reduceLeDiff, Nat.reduceAdd, hh, hw] <;> rfl) ?_
  refine Run.seq ?_
  refine Run.region ?_
  refine RunO.ops (pre := [_, _, _, _, _, _, _, _, _]) (by simp only [go_sem, ↓reduceIte, Nat.reduceEqDiff, Nat.reduceLT, Nat.reduceLeDiff, Nat.reduceAdd, hh, hw] <;> rfl) ?_
  refine RunO.callw (by simp only [go_sem, ↓reduceIte, Nat.reduceEqDiff, Nat.reduceLT, Nat.reduceLeDiff, Nat.reduceAdd, hh, hw] <;> rfl) (by simp only [go_sem, ↓reduceIte, Nat.reduceEqDiff, Nat.reduceLT, Nat.reduceLeDiff, Nat.reduceAdd, hh, hw] <;> rfl) (by simp only [go_sem, ↓reduceIte, Nat.reduceEqDiff, Nat.reduceLT, Nat.reduceLeDiff, Nat.reduceAdd, hh, hw] <;> rfl) (by kernel_rfl) ((heap_Push_own (x := ⟨tick, next, key⟩) (blk_set_self _ _ _) (by rw [blk_set, if_neg (Ne.symm hne)]; exact hL) hne hn hsz hheap).mono ?_)
  rintro r1 s1 ⟨L', ys, h1, h2, h3, h4, h5, h6, h7, h8⟩
  simp only [nxt_set] at h1 h7 h8
  refine RunO.live' [7] (by simp only [go_sem, ↓reduceIte, Nat.reduceEqDiff, Nat.reduceLT, Nat.reduceLeDiff, Nat.reduceAdd, hh, hw] <;> rfl) ?_
  refine Run.seq ?_
  refine Run.region ?_
  refine RunO.all (by simp only [go_sem, ↓reduceIte, Nat.reduceEqDiff, Nat.reduceLT, Nat.reduceLeDiff, Nat.reduceAdd, hh, hw] <;> rfl) ?_
  refine RunO.live' [6] (by simp only [go_sem, ↓reduceIte, Nat.reduceEqDiff, Nat.reduceLT, Nat.reduceLeDiff, Nat.reduceAdd, hh, hw] <;> rfl) ?_
  refine Run.ret ?_
  refine Ret.all (by simp only [Try.f12, go_sem] <;> rfl) ⟨rfl, L', ys, h1, h2, h3, h4, h5, h6, h7, fun i hi k1 k2 => ?_⟩
  rw [h8 i hi k1 k2, blk_set, if_neg k1]

theorem put_first {h : Nat} {next tick key : Int} {s : St} (hh : s.blk h = some (.row 51 [.agg [.sl .nil [], .int .i64 next]]))
    (hnx : 0 ≤ next ∧ next < 1000000) : ACalls Try.prog 12 [.ptr h 0 0, .int .i64 tick, .int .i64 key] s (fun r s' => r = .int .i64 next ∧ ∃ L' ys, s.nxt ≤ L' ∧ s'.blk h = some (.row 51 [.agg [.own L' 0 1, .int .i64 (next + 1)]]) ∧ s'.blk L' = some (.row 37 (ys.map Item.pv)) ∧
      ys = [⟨tick, next, key⟩] ∧ s.nxt ≤ s'.nxt ∧ ∀ i, i < s.nxt → i ≠ h → s'.blk i = s.blk i) := by
  refine ACalls.body Try.func12 rfl (by simp [Try.f12]) (by decide) fun hwf => ?_
  show Run _ _ [.code _] _ _ _
  have hlt := lt_of_blk hwf hh
  have hw : IntKind.i64.wrap (next + 1) = next + 1 := wrap_i64 (by omega)
  refine Run.seq ?_
  refine Run.region ?_
  refine RunO.all (by simp only [go_sem, ↓reduceIte, Nat.reduceEqDiff, Nat.reduceLT, Nat.reduceLeDiff, Nat.reduceAdd, hh, hw] <;> rfl) ?_
  refine RunO.live' [0, 1, 2] (by simp only [go_sem, ↓reduceIte, Nat.reduceEqDiff, Nat.reduceLT, Nat.reduceLeDiff, Nat.reduceAdd, hh, hw] <;> rfl) ?_
  refine Run.seq ?_
  refine Run.region ?_
  refine RunO.all (by simp only [go_sem, ↓reduceIte, Nat.reduceEqDiff, Nat.reduceLT, Nat.reduceLeDiff, Nat.reduceAdd, hh, hw] <;> rfl) ?_
  refine RunO.live' [0, 1, 2, 7] (by simp only [go_sem, ↓reduceIte, Nat.reduceEqDiff, Nat.reduceLT, Nat.reduceLeDiff, Nat.reduceAdd, hh, hw] <;> rfl) ?_
  refine Run.seq ?_
  refine Run.region ?_
  refine RunO.all (by simp only [go_sem, ↓reduceIte, Nat.reduceEqDiff, Nat.reduceLT, Nat.reduceLeDiff, Nat.reduceAdd, hh, hw] <;> rfl) ?_
  refine RunO.live' [0, 1, 2, 7] (by simp only [go_sem, ↓reduceIte, Nat.reduceEqDiff, Nat.reduceLT, Nat.reduceLeDiff, Nat.reduceAdd, hh, hw] <;> rfl) ?_
  refine Run.seq ?_
  refine Run.region ?_
  refine RunO.ops (pre := [_, _, _, _, _, _, _, _, _]) (by simp only [go_sem, ↓reduceIte, Nat.reduceEqDiff, Nat.reduceLT, Nat.reduceLeDiff, Nat.reduceAdd, hh, hw] <;> rfl) ?_
  refine RunO.callw (by simp only [go_sem, ↓reduceIte, Nat.reduceEqDiff, Nat.reduceLT, Nat.reduceLeDiff, Nat.reduceAdd, hh, hw] <;> rfl) (by simp only [go_sem, ↓reduceIte, Nat.reduceEqDiff, Nat.reduceLT, Nat.reduceLeDiff, Nat.reduceAdd, hh, hw] <;> rfl) (by simp only [go_sem, ↓reduceIte, Nat.reduceEqDiff, Nat.reduceLT, Nat.reduceLeDiff, Nat.reduceAdd, hh, hw] <;> rfl) (by kernel_rfl) ((heap_Push_first (x := ⟨tick, next, key⟩) (blk_set_self _ _ _)).mono ?_)
  rintro r1 s1 ⟨L', ys, h1, h2, h3, h4, h7, h8⟩
  simp only [nxt_set] at h1 h7 h8
  refine RunO.live' [7] (by simp only [go_sem, ↓reduceIte, Nat.reduceEqDiff, Nat.reduceLT, Nat.reduceLeDiff, Nat.reduceAdd, hh, hw] <;> rfl) ?_
  refine Run.seq ?_
  refine Run.region ?_
  refine RunO.all (by simp only [go_sem, ↓reduceIte, Nat.reduceEqDiff, Nat.reduceLT, Nat.reduceLeDiff, Nat.reduceAdd, hh, hw] <;> rfl) ?_
  refine RunO.live' [6] (by simp only [go_sem, ↓reduceIte, Nat.reduceEqDiff, Nat.reduceLT, Nat.reduceLeDiff, Nat.reduceAdd, hh, hw] <;> rfl) ?_
  refine Run.ret ?_
  refine Ret.all (by simp only [Try.f12, go_sem] <;> rfl) ⟨rfl, L', ys, h1, h2, h3, h4, h7, fun i hi k1 => ?_⟩
  rw [h8 i hi k1, blk_set, if_neg k1]


theorem hold_Put {s : St} {h : Nat} {xs : List Item} {next tick key : Int} {L : Option Nat} (hlt : h < s.nxt) (hH : HoldAt s h xs next L) (hsz : xs.length < 1000000) (hnx : 0 ≤ next ∧ next < 1000000) :
    ACalls Try.prog 12 [.ptr h 0 0, .int .i64 tick, .int .i64 key] s (fun r s' => r = .int .i64 next ∧ ∃ xs' L', HoldAt s' h xs' (next + 1) L' ∧ xs'.Perm (xs ++ [⟨tick, next, key⟩]) ∧ Moves s s' h L L') := by
  cases L with
  | none =>
    obtain ⟨rfl, h2⟩ := hH
    refine (put_first h2 hnx).mono ?_
    rintro r s' ⟨rfl, L', ys, h1, h2, h3, rfl, h4, h5⟩
    refine ⟨rfl, [⟨tick, next, key⟩], some L', ⟨by omega, _, h2, h3, by simp, rfl, fun k k0 kn => ?_⟩, .refl _, ⟨h4, fun i hi k1 _ => h5 i hi k1, fun l e => .inr (by cases e; exact h1)⟩⟩
    simp at kn; omega
  | some L =>
    obtain ⟨h1, zs, h2, h3, h4, h5, h6⟩ := hH
    refine (put_own h2 h3 h1 h4 hsz hnx h6).mono ?_
    rintro r s' ⟨rfl, L', ys, k1, k2, k3, k4, k5, k6, k7, k8⟩
    refine ⟨rfl, ys, some L', ⟨by omega, ys, by rw [k4]; exact k2, k3, by omega, by rw [List.take_of_length_le (by omega)], by rw [k4]; exact k6⟩, by rw [h5] at k5; exact k5,
      ⟨k7, fun i hi j1 j2 => k8 i hi j1 (fun e => j2 (by rw [e])), fun l e => .inr (by cases e; exact k1)⟩⟩

theorem clip {xs : List Item} {s : St} : ACalls Try.prog 22 [.sl .unk (xs.map Item.pv)] s (fun r s' => r = .sl .unk (xs.map Item.pv) ∧ s' = s) := by
  refine ACalls.body Try.func22 rfl (by simp [Try.f22]) (by decide) fun hwf => ?_
  show Run _ _ [.code _] _ _ _
  refine Run.seq ?_
  refine Run.region ?_
  refine RunO.all (by simp only [go_sem, ↓reduceIte, Nat.reduceEqDiff, Nat.reduceLT, Nat.reduceLeDiff, Nat.reduceAdd, Int.le_refl, Int.natCast_nonneg] <;> rfl) ?_
  refine RunO.live' [0] (by simp only [go_sem, ↓reduceIte, Nat.reduceEqDiff, Nat.reduceLT, Nat.reduceLeDiff, Nat.reduceAdd, Int.le_refl, Int.natCast_nonneg] <;> rfl) ?_
  refine Run.seq ?_
  refine Run.region ?_
  refine RunO.all (by simp only [go_sem, ↓reduceIte, Nat.reduceEqDiff, Nat.reduceLT, Nat.reduceLeDiff, Nat.reduceAdd, Int.le_refl, Int.natCast_nonneg] <;> rfl) ?_
  refine RunO.live' [2] (by simp only [go_sem, ↓reduceIte, Nat.reduceEqDiff, Nat.reduceLT, Nat.reduceLeDiff, Nat.reduceAdd, Int.le_refl, Int.natCast_nonneg] <;> rfl) ?_
  refine Run.ret ?_
  refine Ret.pure (r' := .sl .unk (xs.map Item.pv)) (by simp only [Try.f22, go_sem] <;> rfl) (by rw [PV.weak, Int.sub_zero, Int.toNat_zero, List.drop_zero, Int.toNat_natCast, List.take_of_length_le (by simp), weaks_items]) (by simp only [PV.blw]; exact ⟨fun t z e => by (cases e), blws_map Item.pv _ (fun a => by simp [Item.pv, PV.blw, PV.blws]) _⟩) hwf (fun _ _ => rfl) ⟨rfl, rfl⟩

theorem due_own {s : St} {h L n0 : Nat} {zs : List Item} {nx : PV} {now : Int} (hh : s.blk h = some (.row 51 [.agg [.own L 0 n0, nx]])) (hL : s.blk L = some (.row 37 (zs.map Item.pv))) (hne : h ≠ L) (hn0 : n0 ≤ zs.length) (hsz : n0 < 1000000)
    (hheap : HeapF (at0 zs) n0 0) : ACalls Try.prog 13 [.ptr h 0 0, .int .i64 now] s (fun r s' => ∃ out ys n, r = .sl .unk (out.map Item.pv) ∧ s'.blk h = some (.row 51 [.agg [.own L 0 n, nx]]) ∧ s'.blk L = some (.row 37 (ys.map Item.pv)) ∧ n ≤ ys.length ∧ HeapF (at0 ys) n 0 ∧
      (out ++ ys.take n).Perm (zs.take n0) ∧ out.Pairwise (fun a b => b.lt a = false) ∧ (∀ a ∈ out, a.tick ≤ now) ∧ (∀ a ∈ ys.take n, now < a.tick) ∧ s.nxt ≤ s'.nxt ∧ ∀ i, i < s.nxt → i ≠ h → i ≠ L → s'.blk i = s.blk i) := by
  refine ACalls.body Try.func13 rfl (by simp [Try.f13]) (by decide) fun hwf => ?_
  show Run _ _ [.code _] _ _ _
  have hlt := lt_of_blk hwf hh
  have hLt := lt_of_blk hwf hL
  refine Run.seq ?_
  refine Run.region ?_
  refine RunO.all (by simp only [go_sem, ↓reduceIte, Nat.reduceEqDiff, Nat.reduceLT, Nat.reduceLeDiff, Nat.reduceAdd, weaks_items, Int.natCast_nonneg, Int.ofNat_lt, Nat.lt_add_one, Nat.le_refl, Int.le_refl] <;> rfl) ?_
  refine RunO.live' [0, 1] (by simp only [go_sem, ↓reduceIte, Nat.reduceEqDiff, Nat.reduceLT, Nat.reduceLeDiff, Nat.reduceAdd, weaks_items, Int.natCast_nonneg, Int.ofNat_lt, Nat.lt_add_one, Nat.le_refl, Int.le_refl] <;> rfl) ?_
  refine Run.seq ?_
  refine Run.region ?_
  refine RunO.all (by simp only [go_sem, ↓reduceIte, Nat.reduceEqDiff, Nat.reduceLT, Nat.reduceLeDiff, Nat.reduceAdd, weaks_items, Int.natCast_nonneg, Int.ofNat_lt, Nat.lt_add_one, Nat.le_refl, Int.le_refl] <;> rfl) ?_
  refine RunO.live' [0, 1, 5] (by simp only [go_sem, ↓reduceIte, Nat.reduceEqDiff, Nat.reduceLT, Nat.reduceLeDiff, Nat.reduceAdd, weaks_items, Int.natCast_nonneg, Int.ofNat_lt, Nat.lt_add_one, Nat.le_refl, Int.le_refl] <;> rfl) ?_
  refine Run.seq ?_
  refine Run.block ?_
  -- loop 0, live [0, 1, 5]
  refine Run.loop (fun e s' => ∃ (ys out : List Item) (n : Nat) (k : SK), e = [(0, .ptr h 0 0), (1, .int .i64 now), (5, .sl k (out.map Item.pv))] ∧ s'.blk h = some (.row 51 [.agg [.own L 0 n, nx]]) ∧ s'.blk L = some (.row 37 (ys.map Item.pv)) ∧ n ≤ ys.length ∧ HeapF (at0 ys) n 0 ∧ (out ++ ys.take n).Perm (zs.take n0) ∧ out.Pairwise (fun a b => b.lt a = false) ∧ (∀ a ∈ out, a.tick ≤ now) ∧ (∀ a ∈ out, ∀ b ∈ ys.take n, b.lt a = false) ∧ Grows s' k out.length 3 ∧ (∀ i z, k = .tok i z → s.nxt ≤ i ∧ i < s'.nxt) ∧ s.nxt ≤ s'.nxt ∧ ∀ i, i < s.nxt → i ≠ h → i ≠ L → s'.blk i = s.blk i) (fun e s' => 2 * n0 - outlen (e.get 5)) ?_ ?_
  · exact ⟨zs, [], n0, .nil, rfl, hh, hL, hn0, hheap, by simp, .nil, by simp, by simp, .inl ⟨rfl, rfl⟩, by simp, Nat.le_refl _, fun _ _ _ _ => rfl⟩
  rintro e s1 ⟨ys, out, n, k, rfl, hb1, hb2, hny, hhp, hperm, hsorted, hnow, hord, hgr, htk, hnx, hfr⟩
  have hpl := hperm.length_eq
  simp only [List.length_append, List.length_take] at hpl
  have hh0 : (h = s1.nxt) = False := eq_false (by omega)
  have hl0 : (L = s1.nxt) = False := eq_false (by omega)
  have hk0 : (s1.nxt = h) = False := eq_false (by omega)
  have hk2 : (s1.nxt = L) = False := eq_false (by omega)
  have px : (at0 ys 0).pv = .agg [.int .i64 (at0 ys 0).tick, .int .i64 (at0 ys 0).order, .int .i64 (at0 ys 0).key] := rfl
  refine Run.seq ?_
  refine Run.seq ?_
  refine Run.region ?_
  refine RunO.ops (pre := [_, _, _, _, _, _, _]) (by simp only [go_sem, ↓reduceIte, Nat.reduceEqDiff, Nat.reduceLT, Nat.reduceLeDiff, Nat.reduceAdd, weaks_items, Int.natCast_nonneg, Int.ofNat_lt, Nat.lt_add_one, Nat.le_refl, Int.le_refl, hb1, hb2] <;> rfl) ?_
  refine RunO.bcase 14 (by simp only [go_sem, ↓reduceIte, Nat.reduceEqDiff, Nat.reduceLT, Nat.reduceLeDiff, Nat.reduceAdd, weaks_items, Int.natCast_nonneg, Int.ofNat_lt, Nat.lt_add_one, Nat.le_refl, Int.le_refl, hb1, hb2] <;> rfl) (fun hg6 => ?_) (fun hg6 => ?_)
  · have hn0 : 0 < n := by have := of_decide_eq_true hg6; omega
    obtain ⟨m, rfl⟩ : ∃ m, n = m + 1 := ⟨n - 1, by omega⟩
    have hn1 : 0 < m + 1 := by have := of_decide_eq_true hg6; omega
    have hx : (ys.map Item.pv)[0]? = some (.agg [.int .i64 (at0 ys 0).tick, .int .i64 (at0 ys 0).order, .int .i64 (at0 ys 0).key]) := map_at0 (by omega)
    have hn1q : ((0 : Int) < ((m + 1 : Nat) : Int)) = True := eq_true (by omega)
    refine RunO.gdo (by simp only [go_sem, ↓reduceIte, Nat.reduceEqDiff, Nat.reduceLT, Nat.reduceLeDiff, Nat.reduceAdd, weaks_items, Int.natCast_nonneg, Int.ofNat_lt, Nat.lt_add_one, Nat.le_refl, Int.le_refl, hb1, hb2, hx, hn1q, Int.toNat_zero] <;> rfl) (by simp only [go_sem, ↓reduceIte, Nat.reduceEqDiff, Nat.reduceLT, Nat.reduceLeDiff, Nat.reduceAdd, weaks_items, Int.natCast_nonneg, Int.ofNat_lt, Nat.lt_add_one, Nat.le_refl, Int.le_refl, hb1, hb2, hx, hn1q, Int.toNat_zero] <;> rfl) ?_
    refine RunO.gdo (by simp only [go_sem, ↓reduceIte, Nat.reduceEqDiff, Nat.reduceLT, Nat.reduceLeDiff, Nat.reduceAdd, weaks_items, Int.natCast_nonneg, Int.ofNat_lt, Nat.lt_add_one, Nat.le_refl, Int.le_refl, hb1, hb2, hx, hn1q, Int.toNat_zero] <;> rfl) (by simp only [go_sem, ↓reduceIte, Nat.reduceEqDiff, Nat.reduceLT, Nat.reduceLeDiff, Nat.reduceAdd, weaks_items, Int.natCast_nonneg, Int.ofNat_lt, Nat.lt_add_one, Nat.le_refl, Int.le_refl, hb1, hb2, hx, hn1q, Int.toNat_zero] <;> rfl) ?_
    refine RunO.gdo (by simp only [go_sem, ↓reduceIte, Nat.reduceEqDiff, Nat.reduceLT, Nat.reduceLeDiff, Nat.reduceAdd, weaks_items, Int.natCast_nonneg, Int.ofNat_lt, Nat.lt_add_one, Nat.le_refl, Int.le_refl, hb1, hb2, hx, hn1q, Int.toNat_zero] <;> rfl) (by simp only [go_sem, ↓reduceIte, Nat.reduceEqDiff, Nat.reduceLT, Nat.reduceLeDiff, Nat.reduceAdd, weaks_items, Int.natCast_nonneg, Int.ofNat_lt, Nat.lt_add_one, Nat.le_refl, Int.le_refl, hb1, hb2, hx, hn1q, Int.toNat_zero] <;> rfl) ?_
    refine RunO.gdo (by simp only [go_sem, ↓reduceIte, Nat.reduceEqDiff, Nat.reduceLT, Nat.reduceLeDiff, Nat.reduceAdd, weaks_items, Int.natCast_nonneg, Int.ofNat_lt, Nat.lt_add_one, Nat.le_refl, Int.le_refl, hb1, hb2, hx, hn1q, Int.toNat_zero] <;> rfl) (by simp only [go_sem, ↓reduceIte, Nat.reduceEqDiff, Nat.reduceLT, Nat.reduceLeDiff, Nat.reduceAdd, weaks_items, Int.natCast_nonneg, Int.ofNat_lt, Nat.lt_add_one, Nat.le_refl, Int.le_refl, hb1, hb2, hx, hn1q, Int.toNat_zero] <;> rfl) ?_
    refine RunO.gdo (by simp only [go_sem, ↓reduceIte, Nat.reduceEqDiff, Nat.reduceLT, Nat.reduceLeDiff, Nat.reduceAdd, weaks_items, Int.natCast_nonneg, Int.ofNat_lt, Nat.lt_add_one, Nat.le_refl, Int.le_refl, hb1, hb2, hx, hn1q, Int.toNat_zero] <;> rfl) (by simp only [go_sem, ↓reduceIte, Nat.reduceEqDiff, Nat.reduceLT, Nat.reduceLeDiff, Nat.reduceAdd, weaks_items, Int.natCast_nonneg, Int.ofNat_lt, Nat.lt_add_one, Nat.le_refl, Int.le_refl, hb1, hb2, hx, hn1q, Int.toNat_zero] <;> rfl) ?_
    refine RunO.gdo (by simp only [go_sem, ↓reduceIte, Nat.reduceEqDiff, Nat.reduceLT, Nat.reduceLeDiff, Nat.reduceAdd, weaks_items, Int.natCast_nonneg, Int.ofNat_lt, Nat.lt_add_one, Nat.le_refl, Int.le_refl, hb1, hb2, hx, hn1q, Int.toNat_zero] <;> rfl) (by simp only [go_sem, ↓reduceIte, Nat.reduceEqDiff, Nat.reduceLT, Nat.reduceLeDiff, Nat.reduceAdd, weaks_items, Int.natCast_nonneg, Int.ofNat_lt, Nat.lt_add_one, Nat.le_refl, Int.le_refl, hb1, hb2, hx, hn1q, Int.toNat_zero] <;> rfl) ?_
    refine RunO.gdo (by simp only [go_sem, ↓reduceIte, Nat.reduceEqDiff, Nat.reduceLT, Nat.reduceLeDiff, Nat.reduceAdd, weaks_items, Int.natCast_nonneg, Int.ofNat_lt, Nat.lt_add_one, Nat.le_refl, Int.le_refl, hb1, hb2, hx, hn1q, Int.toNat_zero] <;> rfl) (by simp only [go_sem, ↓reduceIte, Nat.reduceEqDiff, Nat.reduceLT, Nat.reduceLeDiff, Nat.reduceAdd, weaks_items, Int.natCast_nonneg, Int.ofNat_lt, Nat.lt_add_one, Nat.le_refl, Int.le_refl, hb1, hb2, hx, hn1q, Int.toNat_zero] <;> rfl) ?_
    refine RunO.gdo (by simp only [go_sem, ↓reduceIte, Nat.reduceEqDiff, Nat.reduceLT, Nat.reduceLeDiff, Nat.reduceAdd, weaks_items, Int.natCast_nonneg, Int.ofNat_lt, Nat.lt_add_one, Nat.le_refl, Int.le_refl, hb1, hb2, hx, hn1q, Int.toNat_zero] <;> rfl) (by simp only [go_sem, ↓reduceIte, Nat.reduceEqDiff, Nat.reduceLT, Nat.reduceLeDiff, Nat.reduceAdd, weaks_items, Int.natCast_nonneg, Int.ofNat_lt, Nat.lt_add_one, Nat.le_refl, Int.le_refl, hb1, hb2, hx, hn1q, Int.toNat_zero] <;> rfl) ?_
    refine RunO.gdo (by simp only [go_sem, ↓reduceIte, Nat.reduceEqDiff, Nat.reduceLT, Nat.reduceLeDiff, Nat.reduceAdd, weaks_items, Int.natCast_nonneg, Int.ofNat_lt, Nat.lt_add_one, Nat.le_refl, Int.le_refl, hb1, hb2, hx, hn1q, Int.toNat_zero] <;> rfl) (by simp only [go_sem, ↓reduceIte, Nat.reduceEqDiff, Nat.reduceLT, Nat.reduceLeDiff, Nat.reduceAdd, weaks_items, Int.natCast_nonneg, Int.ofNat_lt, Nat.lt_add_one, Nat.le_refl, Int.le_refl, hb1, hb2, hx, hn1q, Int.toNat_zero] <;> rfl) ?_
    refine RunO.all (by simp only [go_sem, ↓reduceIte, Nat.reduceEqDiff, Nat.reduceLT, Nat.reduceLeDiff, Nat.reduceAdd, weaks_items, Int.natCast_nonneg, Int.ofNat_lt, Nat.lt_add_one, Nat.le_refl, Int.le_refl, hb1, hb2, hx, hn1q, Int.toNat_zero] <;> rfl) ?_
    refine RunO.live' [0, 1, 5, 24] (by simp only [go_sem, ↓reduceIte, Nat.reduceEqDiff, Nat.reduceLT, Nat.reduceLeDiff, Nat.reduceAdd, weaks_items, Int.natCast_nonneg, Int.ofNat_lt, Nat.lt_add_one, Nat.le_refl, Int.le_refl, hb1, hb2, hx, hn1q, Int.toNat_zero] <;> rfl) ?_
    refine Run.cond (by simp only [go_sem, ↓reduceIte, Nat.reduceEqDiff, Nat.reduceLT, Nat.reduceLeDiff, Nat.reduceAdd, weaks_items, Int.natCast_nonneg, Int.ofNat_lt, Nat.lt_add_one, Nat.le_refl, Int.le_refl, hb1, hb2, hx, hn1q, Int.toNat_zero] <;> rfl) (fun hc0 => ?_) (fun hc0 => ?_)
    · have hc := hc0
      refine Run.skip ?_
      refine Run.block ?_
      refine Run.seq ?_
      refine Run.region ?_
      refine RunO.ops (pre := [_, _, _, _]) (by simp only [go_sem, ↓reduceIte, Nat.reduceEqDiff, Nat.reduceLT, Nat.reduceLeDiff, Nat.reduceAdd, weaks_items, Int.natCast_nonneg, Int.ofNat_lt, Nat.lt_add_one, Nat.le_refl, Int.le_refl, hb1, hb2, hx, hn1q, Int.toNat_zero] <;> rfl) ?_
      refine RunO.callw (by simp only [go_sem, ↓reduceIte, Nat.reduceEqDiff, Nat.reduceLT, Nat.reduceLeDiff, Nat.reduceAdd, weaks_items, Int.natCast_nonneg, Int.ofNat_lt, Nat.lt_add_one, Nat.le_refl, Int.le_refl, hb1, hb2, hx, hn1q, Int.toNat_zero] <;> rfl) (by simp only [go_sem, ↓reduceIte, Nat.reduceEqDiff, Nat.reduceLT, Nat.reduceLeDiff, Nat.reduceAdd, weaks_items, Int.natCast_nonneg, Int.ofNat_lt, Nat.lt_add_one, Nat.le_refl, Int.le_refl, hb1, hb2, hx, hn1q, Int.toNat_zero] <;> rfl) (by simp only [go_sem, ↓reduceIte, Nat.reduceEqDiff, Nat.reduceLT, Nat.reduceLeDiff, Nat.reduceAdd, weaks_items, Int.natCast_nonneg, Int.ofNat_lt, Nat.lt_add_one, Nat.le_refl, Int.le_refl, hb1, hb2, hx, hn1q, Int.toNat_zero] <;> rfl) (by kernel_rfl) ((heap_Pop (n := m) hb1 hb2 hne hny (by omega) hhp).mono ?_)
      rintro r2 s2 ⟨rfl, ys2, c1, c2, c3, c4, c5, c6, c7⟩
      refine RunO.all (by simp only [go_sem, ↓reduceIte, Nat.reduceEqDiff, Nat.reduceLT, Nat.reduceLeDiff, Nat.reduceAdd, weaks_items, Int.natCast_nonneg, Int.ofNat_lt, Nat.lt_add_one, Nat.le_refl, Int.le_refl, hb1, hb2, hx, hn1q, Int.toNat_zero] <;> rfl) ?_
      refine RunO.live' [0, 1, 5, 6, 7] (by simp only [go_sem, ↓reduceIte, Nat.reduceEqDiff, Nat.reduceLT, Nat.reduceLeDiff, Nat.reduceAdd, weaks_items, Int.natCast_nonneg, Int.ofNat_lt, Nat.lt_add_one, Nat.le_refl, Int.le_refl, hb1, hb2, hx, hn1q, Int.toNat_zero] <;> rfl) ?_
      refine Run.seq ?_
      refine Run.region ?_
      refine RunO.all (by simp only [go_sem, ↓reduceIte, Nat.reduceEqDiff, Nat.reduceLT, Nat.reduceLeDiff, Nat.reduceAdd, weaks_items, Int.natCast_nonneg, Int.ofNat_lt, Nat.lt_add_one, Nat.le_refl, Int.le_refl, hb1, hb2, hx, hn1q, Int.toNat_zero] <;> rfl) ?_
      refine RunO.live' [0, 1, 5, 6, 34] (by simp only [go_sem, ↓reduceIte, Nat.reduceEqDiff, Nat.reduceLT, Nat.reduceLeDiff, Nat.reduceAdd, weaks_items, Int.natCast_nonneg, Int.ofNat_lt, Nat.lt_add_one, Nat.le_refl, Int.le_refl, hb1, hb2, hx, hn1q, Int.toNat_zero] <;> rfl) ?_
      refine Run.cond (by simp only [go_sem, ↓reduceIte, Nat.reduceEqDiff, Nat.reduceLT, Nat.reduceLeDiff, Nat.reduceAdd, weaks_items, Int.natCast_nonneg, Int.ofNat_lt, Nat.lt_add_one, Nat.le_refl, Int.le_refl, hb1, hb2, hx, hn1q, Int.toNat_zero] <;> rfl) (fun hc1 => ?_) (fun hc1 => ?_)
      · have hc := hc1
        have hgr2 : Grows (s2.new (.row 37 [.agg [.int .i64 (at0 ys 0).tick, .int .i64 (at0 ys 0).order, .int .i64 (at0 ys 0).key]])) k (out.map Item.pv).length 3 := by
          rw [List.length_map]
          refine hgr.mono fun t ht => ?_
          rw [blk_new, if_neg (by have := htk t 3 ht; omega), c7 t (htk t 3 ht).2 (hgr.ne ht h hb1 (by simp)) (hgr.ne ht L hb2 (by simp))]
        refine Run.region ?_
        refine RunO.ops (pre := [_, _]) (by simp only [go_sem, ↓reduceIte, Nat.reduceEqDiff, Nat.reduceLT, Nat.reduceLeDiff, Nat.reduceAdd, weaks_items, Int.natCast_nonneg, Int.ofNat_lt, Nat.lt_add_one, Nat.le_refl, Int.le_refl, hb1, hb2, hx, hn1q, Int.toNat_zero, px] <;> rfl) ?_
        refine RunO.lit (by simp only [go_sem, ↓reduceIte, Nat.reduceEqDiff, Nat.reduceLT, Nat.reduceLeDiff, Nat.reduceAdd, weaks_items, Int.natCast_nonneg, Int.ofNat_lt, Nat.lt_add_one, Nat.le_refl, Int.le_refl, hb1, hb2, hx, hn1q, Int.toNat_zero, px] <;> rfl) (by simp only [go_sem, ↓reduceIte, Nat.reduceEqDiff, Nat.reduceLT, Nat.reduceLeDiff, Nat.reduceAdd, weaks_items, Int.natCast_nonneg, Int.ofNat_lt, Nat.lt_add_one, Nat.le_refl, Int.le_refl, hb1, hb2, hx, hn1q, Int.toNat_zero, px] <;> rfl) ?_
        refine RunO.grow (by simp only [go_sem, ↓reduceIte, Nat.reduceEqDiff, Nat.reduceLT, Nat.reduceLeDiff, Nat.reduceAdd, weaks_items, Int.natCast_nonneg, Int.ofNat_lt, Nat.lt_add_one, Nat.le_refl, Int.le_refl, hb1, hb2, hx, hn1q, Int.toNat_zero, px] <;> rfl) (by simp only [go_sem, ↓reduceIte, Nat.reduceEqDiff, Nat.reduceLT, Nat.reduceLeDiff, Nat.reduceAdd, weaks_items, Int.natCast_nonneg, Int.ofNat_lt, Nat.lt_add_one, Nat.le_refl, Int.le_refl, hb1, hb2, hx, hn1q, Int.toNat_zero, px] <;> rfl) (by simp only [go_sem, ↓reduceIte, Nat.reduceEqDiff, Nat.reduceLT, Nat.reduceLeDiff, Nat.reduceAdd, weaks_items, Int.natCast_nonneg, Int.ofNat_lt, Nat.lt_add_one, Nat.le_refl, Int.le_refl, hb1, hb2, hx, hn1q, Int.toNat_zero, px] <;> rfl) Try.td32 (by rw [Try.zp37]; rfl) (isEls_items _) (isEls_item _) (by rw [Try.by37]; decide) (by rw [Try.by37]; simp; omega) (by rw [Try.cz37]; exact hgr2) (by simp) ?_
        intro k' s' hgr' htm
        refine RunO.all (by simp only [go_sem, ↓reduceIte, Nat.reduceEqDiff, Nat.reduceLT, Nat.reduceLeDiff, Nat.reduceAdd, weaks_items, Int.natCast_nonneg, Int.ofNat_lt, Nat.lt_add_one, Nat.le_refl, Int.le_refl, hb1, hb2, hx, hn1q, Int.toNat_zero, px] <;> rfl) ?_
        refine RunO.live' [0, 1, 5] (by simp only [go_sem, ↓reduceIte, Nat.reduceEqDiff, Nat.reduceLT, Nat.reduceLeDiff, Nat.reduceAdd, weaks_items, Int.natCast_nonneg, Int.ofNat_lt, Nat.lt_add_one, Nat.le_refl, Int.le_refl, hb1, hb2, hx, hn1q, Int.toNat_zero, px] <;> rfl) ?_
        refine Run.blk ?_
        have hmem : at0 ys 0 ∈ ys.take (m + 1) := c4.subset (by simp)
        have hsub : ∀ b ∈ ys2.take m, b ∈ ys.take (m + 1) := fun b hb => c4.subset (by simp [hb])
        have hxn : (at0 ys 0).tick ≤ now := of_decide_eq_true hc0
        have hn2 := htm.nxt
        simp only [nxt_new] at hn2
        have hfr2 : ∀ i, i < s1.nxt → (∀ z, k ≠ .tok i z) → s'.blk i = s2.blk i := fun i hi hk => by
          rw [htm.rest i (by simp only [nxt_new]; omega) hk, blk_new, if_neg (by omega)]
        have hkh : ∀ z, k ≠ .tok h z := fun z e => hgr.ne e h hb1 (by simp) rfl
        have hkL : ∀ z, k ≠ .tok L z := fun z e => hgr.ne e L hb2 (by simp) rfl
        refine Run.lp ⟨⟨ys2, out ++ [at0 ys 0], m, k', ?_, ?_, ?_, by omega, c5, ?_, ?_, ?_, ?_, ?_, ?_, by omega, ?_⟩, ?_⟩
        · simp [px]
        · rw [hfr2 h (by omega) hkh]; exact c1
        · rw [hfr2 L (by omega) hkL]; exact c2
        · rw [List.append_assoc]
          exact (((List.perm_append_comm (l₁ := [at0 ys 0])).trans c4).append_left out).trans hperm
        · exact List.pairwise_append.2 ⟨hsorted, List.pairwise_singleton _ _, fun a ha b hb => by
            rw [List.mem_singleton.1 hb]; exact hord a ha _ hmem⟩
        · intro a ha
          rcases List.mem_append.1 ha with ha | ha
          · exact hnow a ha
          · rw [List.mem_singleton.1 ha]; exact hxn
        · intro a ha b hb
          rcases List.mem_append.1 ha with ha | ha
          · exact hord a ha b (hsub b hb)
          · rw [List.mem_singleton.1 ha]; exact hhp.least (hsub b hb)
        · rw [Try.cz37] at hgr'
          simpa using hgr'
        · intro i z e
          rcases htm.fresh i z e with ⟨z', e'⟩ | ⟨h1, h2⟩
          · have := htk i z' e'
            omega
          · simp only [nxt_new] at h1
            omega
        · intro i hi h1 h2
          rw [hfr2 i (by omega) (fun z e => by have := (htk i z e).1; omega), c7 i (by omega) h1 h2, hfr i hi h1 h2]
        · simp only [go_sem, ↓reduceIte, Nat.reduceEqDiff, outlen, List.length_append, List.length_map, List.length_cons, List.length_nil]
          omega
      · cases hc1
    · have hc := hc0
      refine Run.exit ?_
      show Run _ _ _ _ _ _
      refine Run.seq ?_
      refine Run.region ?_
      refine RunO.ops (pre := [_]) (by simp only [go_sem, ↓reduceIte, Nat.reduceEqDiff, Nat.reduceLT, Nat.reduceLeDiff, Nat.reduceAdd, weaks_items, Int.natCast_nonneg, Int.ofNat_lt, Nat.lt_add_one, Nat.le_refl, Int.le_refl, hb1, hb2, hx, hn1q, Int.toNat_zero] <;> rfl) ?_
      refine RunO.callw (by simp only [go_sem, ↓reduceIte, Nat.reduceEqDiff, Nat.reduceLT, Nat.reduceLeDiff, Nat.reduceAdd, weaks_items, Int.natCast_nonneg, Int.ofNat_lt, Nat.lt_add_one, Nat.le_refl, Int.le_refl, hb1, hb2, hx, hn1q, Int.toNat_zero] <;> rfl) (by simp only [go_sem, ↓reduceIte, Nat.reduceEqDiff, Nat.reduceLT, Nat.reduceLeDiff, Nat.reduceAdd, weaks_items, Int.natCast_nonneg, Int.ofNat_lt, Nat.lt_add_one, Nat.le_refl, Int.le_refl, hb1, hb2, hx, hn1q, Int.toNat_zero] <;> rfl) (by simp only [go_sem, ↓reduceIte, Nat.reduceEqDiff, Nat.reduceLT, Nat.reduceLeDiff, Nat.reduceAdd, weaks_items, Int.natCast_nonneg, Int.ofNat_lt, Nat.lt_add_one, Nat.le_refl, Int.le_refl, hb1, hb2, hx, hn1q, Int.toNat_zero] <;> rfl) (by kernel_rfl) ((clip).mono ?_)
      rintro r4 s4 ⟨rfl, hs⟩
      subst s4
      refine RunO.all (by simp only [go_sem, ↓reduceIte, Nat.reduceEqDiff, Nat.reduceLT, Nat.reduceLeDiff, Nat.reduceAdd, weaks_items, Int.natCast_nonneg, Int.ofNat_lt, Nat.lt_add_one, Nat.le_refl, Int.le_refl, hb1, hb2, hx, hn1q, Int.toNat_zero] <;> rfl) ?_
      refine RunO.live' [4] (by simp only [go_sem, ↓reduceIte, Nat.reduceEqDiff, Nat.reduceLT, Nat.reduceLeDiff, Nat.reduceAdd, weaks_items, Int.natCast_nonneg, Int.ofNat_lt, Nat.lt_add_one, Nat.le_refl, Int.le_refl, hb1, hb2, hx, hn1q, Int.toNat_zero] <;> rfl) ?_
      refine Run.ret ?_
      refine Ret.all (by simp only [Try.f13, go_sem] <;> rfl) ⟨out, ys, _, rfl, hb1, hb2, hny, hhp, hperm, hsorted, hnow, fun a ha => ?_, hnx, hfr⟩
      first
        | (have h1 := tick_le (hhp.least ha)
           have h2 := of_decide_eq_false hc0
           omega)
        | (have h1 := of_decide_eq_false hg6
           obtain rfl : n = 0 := by omega
           simp at ha)
  · refine RunO.gskip' (by simp only [go_sem, ↓reduceIte, Nat.reduceEqDiff, Nat.reduceLT, Nat.reduceLeDiff, Nat.reduceAdd, weaks_items, Int.natCast_nonneg, Int.ofNat_lt, Nat.lt_add_one, Nat.le_refl, Int.le_refl, hb1, hb2] <;> rfl) ?_
    refine RunO.gskip' (by simp only [go_sem, ↓reduceIte, Nat.reduceEqDiff, Nat.reduceLT, Nat.reduceLeDiff, Nat.reduceAdd, weaks_items, Int.natCast_nonneg, Int.ofNat_lt, Nat.lt_add_one, Nat.le_refl, Int.le_refl, hb1, hb2] <;> rfl) ?_
    refine RunO.gskip' (by simp only [go_sem, ↓reduceIte, Nat.reduceEqDiff, Nat.reduceLT, Nat.reduceLeDiff, Nat.reduceAdd, weaks_items, Int.natCast_nonneg, Int.ofNat_lt, Nat.lt_add_one, Nat.le_refl, Int.le_refl, hb1, hb2] <;> rfl) ?_
    refine RunO.gskip' (by simp only [go_sem, ↓reduceIte, Nat.reduceEqDiff, Nat.reduceLT, Nat.reduceLeDiff, Nat.reduceAdd, weaks_items, Int.natCast_nonneg, Int.ofNat_lt, Nat.lt_add_one, Nat.le_refl, Int.le_refl, hb1, hb2] <;> rfl) ?_
    refine RunO.gskip' (by simp only [go_sem, ↓reduceIte, Nat.reduceEqDiff, Nat.reduceLT, Nat.reduceLeDiff, Nat.reduceAdd, weaks_items, Int.natCast_nonneg, Int.ofNat_lt, Nat.lt_add_one, Nat.le_refl, Int.le_refl, hb1, hb2] <;> rfl) ?_
    refine RunO.gskip' (by simp only [go_sem, ↓reduceIte, Nat.reduceEqDiff, Nat.reduceLT, Nat.reduceLeDiff, Nat.reduceAdd, weaks_items, Int.natCast_nonneg, Int.ofNat_lt, Nat.lt_add_one, Nat.le_refl, Int.le_refl, hb1, hb2] <;> rfl) ?_
    refine RunO.gskip' (by simp only [go_sem, ↓reduceIte, Nat.reduceEqDiff, Nat.reduceLT, Nat.reduceLeDiff, Nat.reduceAdd, weaks_items, Int.natCast_nonneg, Int.ofNat_lt, Nat.lt_add_one, Nat.le_refl, Int.le_refl, hb1, hb2] <;> rfl) ?_
    refine RunO.gskip' (by simp only [go_sem, ↓reduceIte, Nat.reduceEqDiff, Nat.reduceLT, Nat.reduceLeDiff, Nat.reduceAdd, weaks_items, Int.natCast_nonneg, Int.ofNat_lt, Nat.lt_add_one, Nat.le_refl, Int.le_refl, hb1, hb2] <;> rfl) ?_
    refine RunO.gskip' (by simp only [go_sem, ↓reduceIte, Nat.reduceEqDiff, Nat.reduceLT, Nat.reduceLeDiff, Nat.reduceAdd, weaks_items, Int.natCast_nonneg, Int.ofNat_lt, Nat.lt_add_one, Nat.le_refl, Int.le_refl, hb1, hb2] <;> rfl) ?_
    refine RunO.all (by simp only [go_sem, ↓reduceIte, Nat.reduceEqDiff, Nat.reduceLT, Nat.reduceLeDiff, Nat.reduceAdd, weaks_items, Int.natCast_nonneg, Int.ofNat_lt, Nat.lt_add_one, Nat.le_refl, Int.le_refl, hb1, hb2] <;> rfl) ?_
    refine RunO.live' [0, 1, 5, 24] (by simp only [go_sem, ↓reduceIte, Nat.reduceEqDiff, Nat.reduceLT, Nat.reduceLeDiff, Nat.reduceAdd, weaks_items, Int.natCast_nonneg, Int.ofNat_lt, Nat.lt_add_one, Nat.le_refl, Int.le_refl, hb1, hb2] <;> rfl) ?_
    refine Run.cond (by simp only [go_sem, ↓reduceIte, Nat.reduceEqDiff, Nat.reduceLT, Nat.reduceLeDiff, Nat.reduceAdd, weaks_items, Int.natCast_nonneg, Int.ofNat_lt, Nat.lt_add_one, Nat.le_refl, Int.le_refl, hb1, hb2] <;> rfl) (fun hc0 => ?_) (fun hc0 => ?_)
    · cases hc0
    · have hc := hc0
      refine Run.exit ?_
      show Run _ _ _ _ _ _
      refine Run.seq ?_
      refine Run.region ?_
      refine RunO.ops (pre := [_]) (by simp only [go_sem, ↓reduceIte, Nat.reduceEqDiff, Nat.reduceLT, Nat.reduceLeDiff, Nat.reduceAdd, weaks_items, Int.natCast_nonneg, Int.ofNat_lt, Nat.lt_add_one, Nat.le_refl, Int.le_refl, hb1, hb2] <;> rfl) ?_
      refine RunO.callw (by simp only [go_sem, ↓reduceIte, Nat.reduceEqDiff, Nat.reduceLT, Nat.reduceLeDiff, Nat.reduceAdd, weaks_items, Int.natCast_nonneg, Int.ofNat_lt, Nat.lt_add_one, Nat.le_refl, Int.le_refl, hb1, hb2] <;> rfl) (by simp only [go_sem, ↓reduceIte, Nat.reduceEqDiff, Nat.reduceLT, Nat.reduceLeDiff, Nat.reduceAdd, weaks_items, Int.natCast_nonneg, Int.ofNat_lt, Nat.lt_add_one, Nat.le_refl, Int.le_refl, hb1, hb2] <;> rfl) (by simp only [go_sem, ↓reduceIte, Nat.reduceEqDiff, Nat.reduceLT, Nat.reduceLeDiff, Nat.reduceAdd, weaks_items, Int.natCast_nonneg, Int.ofNat_lt, Nat.lt_add_one, Nat.le_refl, Int.le_refl, hb1, hb2] <;> rfl) (by kernel_rfl) ((clip).mono ?_)
      rintro r4 s4 ⟨rfl, hs⟩
      subst s4
      refine RunO.all (by simp only [go_sem, ↓reduceIte, Nat.reduceEqDiff, Nat.reduceLT, Nat.reduceLeDiff, Nat.reduceAdd, weaks_items, Int.natCast_nonneg, Int.ofNat_lt, Nat.lt_add_one, Nat.le_refl, Int.le_refl, hb1, hb2] <;> rfl) ?_
      refine RunO.live' [4] (by simp only [go_sem, ↓reduceIte, Nat.reduceEqDiff, Nat.reduceLT, Nat.reduceLeDiff, Nat.reduceAdd, weaks_items, Int.natCast_nonneg, Int.ofNat_lt, Nat.lt_add_one, Nat.le_refl, Int.le_refl, hb1, hb2] <;> rfl) ?_
      refine Run.ret ?_
      refine Ret.all (by simp only [Try.f13, go_sem] <;> rfl) ⟨out, ys, _, rfl, hb1, hb2, hny, hhp, hperm, hsorted, hnow, fun a ha => ?_, hnx, hfr⟩
      first
        | (have h1 := tick_le (hhp.least ha)
           have h2 := of_decide_eq_false hc0
           omega)
        | (have h1 := of_decide_eq_false hg6
           obtain rfl : n = 0 := by omega
           simp at ha)

end Go.Proofs
