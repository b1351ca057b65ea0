import Derived.Test.YtegdcamfhldcoaaH0
namespace Go.Proofs
open Go.PM
set_option maxHeartbeats 1000000
set_option linter.unusedSimpArgs false
set_option linter.unusedVariables false

theorem lt_of_blk {s : St} (hwf : s.wf) {i : Nat} {b : Blk} (h : s.blk i = some b) : i < s.nxt := by
  rcases Nat.lt_or_ge i s.nxt with h1 | h1
  · exact h1
  · rw [hwf i h1] at h; cases h

def ivar1 (e : Env) (i : Nat) : Nat := match e.get i with
  | .int _ n => (n + 1).toNat
  | _ => 0

theorem set_self {s : St} {i : Nat} {b : Option Blk} (h : s.blk i = b) : s.set i b = s := by
  cases s with
  | mk n f =>
    simp only [St.set, St.mk.injEq, true_and]
    funext k
    by_cases hk : k = i
    · subst hk; rw [if_pos rfl]; exact h.symm
    · rw [if_neg hk]

theorem up_ix (j : Nat) (h : j ≤ 1000000) : IntKind.i64.wrap ((IntKind.i64.wrap ((j : Int) - 1)).tdiv 2) = (((j - 1) / 2 : Nat) : Int) := by
  rw [wrap_i64 (n := (j : Int) - 1) (by omega)]
  cases j with
  | zero => decide
  | succ k =>
    have : ((k + 1 : Nat) : Int) - 1 = (k : Int) := by omega
    rw [this, Int.tdiv_eq_ediv_of_nonneg (by omega), wrap_i64 (by omega)]
    simp

theorem isEls_item (x : Item) : isEls Try.prog 37 [x.pv] := by
  intro el hel
  simp at hel
  subst hel
  exact ⟨rfl, by rw [Try.cz37]; rfl⟩

theorem items_Push_own {h L n : Nat} {els : List PV} {nx : PV} {x : Item} {s : St} (hh : s.blk h = some (.row 51 [.agg [.own L 0 n, nx]])) (hL : s.blk L = some (.row 37 els)) (hne : h ≠ L) (hn : n ≤ els.length) (hsz : n ≤ 1000000) :
    ACalls Try.prog 55 [.ptr h 0 0, .iface 37 x.pv] s (fun r s' => ∃ L', s.nxt ≤ L' ∧ s'.blk h = some (.row 51 [.agg [.own L' 0 (n + 1), nx]]) ∧ s'.blk L' = some (.row 37 (els.take n ++ [x.pv])) ∧ s.nxt ≤ s'.nxt ∧ ∀ i, i < s.nxt → i ≠ h → i ≠ L → s'.blk i = s.blk i) := by
  refine ACalls.body Try.func55 rfl (by simp [Try.f55]) (by decide) fun hwf => ?_
  show Run _ _ [.code _] _ _ _
  have hlt := lt_of_blk hwf hh
  have hLt := lt_of_blk hwf hL
  have hh0 : (h = s.nxt) = False := eq_false (by omega)
  have hl0 : (L = s.nxt) = False := eq_false (by omega)
  have hh1 : ∀ k, (h = s.nxt + k) = False := fun k => eq_false (by omega)
  have hl1 : ∀ k, (L = s.nxt + k) = False := fun k => eq_false (by omega)
  have hne1 : (h = L) = False := eq_false hne
  have hne2 : (L = h) = False := eq_false (Ne.symm hne)
  have hk0 : (s.nxt = h) = False := eq_false (by omega)
  have hk1 : (s.nxt + 1 = h) = False := eq_false (by omega)
  have hk2 : (s.nxt = L) = False := eq_false (by omega)
  have hk3 : (s.nxt + 1 = L) = False := eq_false (by omega)
  have px : x.pv = .agg [.int .i64 x.tick, .int .i64 x.order, .int .i64 x.key] := rfl
  refine Run.seq ?_
  refine Run.region ?_
  refine RunO.all (by simp only [go_sem, ↓reduceIte, Nat.reduceEqDiff, Nat.reduceLT, Nat.reduceLeDiff, Nat.reduceAdd, hh, hL, hh0, hl0, hh1, hl1, hne1, hne2, hk0, hk1, hk2, hk3, Int.natCast_nonneg, Int.ofNat_lt, Nat.lt_add_one, Nat.le_refl, px, hn, List.cons_ne_nil] <;> rfl) ?_
  refine RunO.live' [0, 4, 5] (by simp only [go_sem, ↓reduceIte, Nat.reduceEqDiff, Nat.reduceLT, Nat.reduceLeDiff, Nat.reduceAdd, hh, hL, hh0, hl0, hh1, hl1, hne1, hne2, hk0, hk1, hk2, hk3, Int.natCast_nonneg, Int.ofNat_lt, Nat.lt_add_one, Nat.le_refl, px, hn, List.cons_ne_nil] <;> rfl) ?_
  refine Run.seq ?_
  refine Run.region ?_
  refine RunO.all (by simp only [go_sem, ↓reduceIte, Nat.reduceEqDiff, Nat.reduceLT, Nat.reduceLeDiff, Nat.reduceAdd, hh, hL, hh0, hl0, hh1, hl1, hne1, hne2, hk0, hk1, hk2, hk3, Int.natCast_nonneg, Int.ofNat_lt, Nat.lt_add_one, Nat.le_refl, px, hn, List.cons_ne_nil] <;> rfl) ?_
  refine RunO.live' [0, 4, 11] (by simp only [go_sem, ↓reduceIte, Nat.reduceEqDiff, Nat.reduceLT, Nat.reduceLeDiff, Nat.reduceAdd, hh, hL, hh0, hl0, hh1, hl1, hne1, hne2, hk0, hk1, hk2, hk3, Int.natCast_nonneg, Int.ofNat_lt, Nat.lt_add_one, Nat.le_refl, px, hn, List.cons_ne_nil] <;> rfl) ?_
  refine Run.cond (by simp only [go_sem, ↓reduceIte, Nat.reduceEqDiff, Nat.reduceLT, Nat.reduceLeDiff, Nat.reduceAdd, hh, hL, hh0, hl0, hh1, hl1, hne1, hne2, hk0, hk1, hk2, hk3, Int.natCast_nonneg, Int.ofNat_lt, Nat.lt_add_one, Nat.le_refl, px, hn, List.cons_ne_nil] <;> rfl) (fun hc0 => ?_) (fun hc0 => ?_)
  · have hc := hc0
    refine Run.drawC [6, 8] [] Try.mixed (by kernel_rfl) ?_
    refine DetC.pre (pre := [_, _, _, _, _, _]) (by simp only [go_sem, ↓reduceIte, Nat.reduceEqDiff, Nat.reduceLT, Nat.reduceLeDiff, Nat.reduceAdd, hh, hL, hh0, hl0, hh1, hl1, hne1, hne2, hk0, hk1, hk2, hk3, Int.natCast_nonneg, Int.ofNat_lt, Nat.lt_add_one, Nat.le_refl, px, hn, List.cons_ne_nil] <;> rfl) ?_
    refine DetC.appendOwn (by decide) (by simp only [go_sem, ↓reduceIte, Nat.reduceEqDiff, Nat.reduceLT, Nat.reduceLeDiff, Nat.reduceAdd, hh, hL, hh0, hl0, hh1, hl1, hne1, hne2, hk0, hk1, hk2, hk3, Int.natCast_nonneg, Int.ofNat_lt, Nat.lt_add_one, Nat.le_refl, px, hn, List.cons_ne_nil] <;> rfl) (by simp only [go_sem, ↓reduceIte, Nat.reduceEqDiff, Nat.reduceLT, Nat.reduceLeDiff, Nat.reduceAdd, hh, hL, hh0, hl0, hh1, hl1, hne1, hne2, hk0, hk1, hk2, hk3, Int.natCast_nonneg, Int.ofNat_lt, Nat.lt_add_one, Nat.le_refl, px, hn, List.cons_ne_nil] <;> rfl) (by simp only [go_sem, ↓reduceIte, Nat.reduceEqDiff, Nat.reduceLT, Nat.reduceLeDiff, Nat.reduceAdd, hh, hL, hh0, hl0, hh1, hl1, hne1, hne2, hk0, hk1, hk2, hk3, Int.natCast_nonneg, Int.ofNat_lt, Nat.lt_add_one, Nat.le_refl, px, hn, List.cons_ne_nil] <;> rfl) Try.td49 (by rw [Try.zp37]; rfl) (isEls_item x) (by rw [Try.by37]; decide) (by rw [Try.by37]; simp; omega) (by simp only [go_sem, ↓reduceIte, Nat.reduceEqDiff, Nat.reduceLT, Nat.reduceLeDiff, Nat.reduceAdd, hh, hL, hh0, hl0, hh1, hl1, hne1, hne2, hk0, hk1, hk2, hk3, Int.natCast_nonneg, Int.ofNat_lt, Nat.lt_add_one, Nat.le_refl, px, hn, List.cons_ne_nil] <;> rfl) ?_
    refine DetC.pre (pre := [_]) (by simp only [go_sem, ↓reduceIte, Nat.reduceEqDiff, Nat.reduceLT, Nat.reduceLeDiff, Nat.reduceAdd, hh, hL, hh0, hl0, hh1, hl1, hne1, hne2, hk0, hk1, hk2, hk3, Int.natCast_nonneg, Int.ofNat_lt, Nat.lt_add_one, Nat.le_refl, px, hn, List.cons_ne_nil] <;> rfl) ?_
    refine DetC.eff (by decide) (by simp only [go_sem, ↓reduceIte, Nat.reduceEqDiff, Nat.reduceLT, Nat.reduceLeDiff, Nat.reduceAdd, hh, hL, hh0, hl0, hh1, hl1, hne1, hne2, hk0, hk1, hk2, hk3, Int.natCast_nonneg, Int.ofNat_lt, Nat.lt_add_one, Nat.le_refl, px, hn, List.cons_ne_nil] <;> rfl) (by simp only [go_sem, ↓reduceIte, Nat.reduceEqDiff, Nat.reduceLT, Nat.reduceLeDiff, Nat.reduceAdd, hh, hL, hh0, hl0, hh1, hl1, hne1, hne2, hk0, hk1, hk2, hk3, Int.natCast_nonneg, Int.ofNat_lt, Nat.lt_add_one, Nat.le_refl, px, hn, List.cons_ne_nil] <;> rfl) ?_
    refine DetC.nil ?_
    refine Run.envEq' (by simp only [go_sem, ↓reduceIte, Nat.reduceEqDiff, Nat.reduceLT, Nat.reduceLeDiff, Nat.reduceAdd, hh, hL, hh0, hl0, hh1, hl1, hne1, hne2, hk0, hk1, hk2, hk3, Int.natCast_nonneg, Int.ofNat_lt, Nat.lt_add_one, Nat.le_refl, px, hn, List.cons_ne_nil] <;> rfl) ?_
    refine Run.nil ?_
    refine Ret.all (by simp only [Try.f55, go_sem] <;> rfl) ?_
    refine ⟨s.nxt + 1, by omega, ?_, ?_, ?_, fun i hi h1 h2 => ?_⟩
    · simp only [go_sem, ↓reduceIte]
    · simp only [go_sem, ↓reduceIte, hk1, hl1, px]
    · simp only [go_sem]; omega
    · have h3 : (i = s.nxt) = False := eq_false (by omega)
      have h4 : ∀ k, (i = s.nxt + k) = False := fun k => eq_false (by omega)
      simp only [go_sem, ↓reduceIte, h1, h2, h3, h4]
  · cases hc0

theorem items_Push_first {h : Nat} {nx : PV} {x : Item} {s : St} (hh : s.blk h = some (.row 51 [.agg [.sl .nil [], nx]])) :
    ACalls Try.prog 55 [.ptr h 0 0, .iface 37 x.pv] s (fun r s' => ∃ L', s.nxt ≤ L' ∧ s'.blk h = some (.row 51 [.agg [.own L' 0 1, nx]]) ∧ s'.blk L' = some (.row 37 [x.pv]) ∧ s.nxt ≤ s'.nxt ∧ ∀ i, i < s.nxt → i ≠ h → s'.blk i = s.blk i) := by
  refine ACalls.body Try.func55 rfl (by simp [Try.f55]) (by decide) fun hwf => ?_
  show Run _ _ [.code _] _ _ _
  have hlt := lt_of_blk hwf hh
  have hh0 : (h = s.nxt) = False := eq_false (by omega)
  have hh1 : ∀ k, (h = s.nxt + k) = False := fun k => eq_false (by omega)
  have hk0 : (s.nxt = h) = False := eq_false (by omega)
  have hk1 : (s.nxt + 1 = h) = False := eq_false (by omega)
  have px : x.pv = .agg [.int .i64 x.tick, .int .i64 x.order, .int .i64 x.key] := rfl
  refine Run.seq ?_
  refine Run.region ?_
  refine RunO.all (by simp only [go_sem, ↓reduceIte, Nat.reduceEqDiff, Nat.reduceLT, Nat.reduceLeDiff, Nat.reduceAdd, hh, hh0, hh1, hk0, hk1, Int.natCast_nonneg, Int.ofNat_lt, Nat.lt_add_one, Nat.le_refl, px, List.cons_ne_nil] <;> rfl) ?_
  refine RunO.live' [0, 4, 5] (by simp only [go_sem, ↓reduceIte, Nat.reduceEqDiff, Nat.reduceLT, Nat.reduceLeDiff, Nat.reduceAdd, hh, hh0, hh1, hk0, hk1, Int.natCast_nonneg, Int.ofNat_lt, Nat.lt_add_one, Nat.le_refl, px, List.cons_ne_nil] <;> rfl) ?_
  refine Run.seq ?_
  refine Run.region ?_
  refine RunO.all (by simp only [go_sem, ↓reduceIte, Nat.reduceEqDiff, Nat.reduceLT, Nat.reduceLeDiff, Nat.reduceAdd, hh, hh0, hh1, hk0, hk1, Int.natCast_nonneg, Int.ofNat_lt, Nat.lt_add_one, Nat.le_refl, px, List.cons_ne_nil] <;> rfl) ?_
  refine RunO.live' [0, 4, 11] (by simp only [go_sem, ↓reduceIte, Nat.reduceEqDiff, Nat.reduceLT, Nat.reduceLeDiff, Nat.reduceAdd, hh, hh0, hh1, hk0, hk1, Int.natCast_nonneg, Int.ofNat_lt, Nat.lt_add_one, Nat.le_refl, px, List.cons_ne_nil] <;> rfl) ?_
  refine Run.cond (by simp only [go_sem, ↓reduceIte, Nat.reduceEqDiff, Nat.reduceLT, Nat.reduceLeDiff, Nat.reduceAdd, hh, hh0, hh1, hk0, hk1, Int.natCast_nonneg, Int.ofNat_lt, Nat.lt_add_one, Nat.le_refl, px, List.cons_ne_nil] <;> rfl) (fun hc0 => ?_) (fun hc0 => ?_)
  · have hc := hc0
    refine Run.drawC [6, 8] [] Try.mixed (by kernel_rfl) ?_
    refine DetC.pre (pre := [_, _, _, _, _, _]) (by simp only [go_sem, ↓reduceIte, Nat.reduceEqDiff, Nat.reduceLT, Nat.reduceLeDiff, Nat.reduceAdd, hh, hh0, hh1, hk0, hk1, Int.natCast_nonneg, Int.ofNat_lt, Nat.lt_add_one, Nat.le_refl, px, List.cons_ne_nil] <;> rfl) ?_
    refine DetC.appendFirst (by decide) (by simp only [go_sem, ↓reduceIte, Nat.reduceEqDiff, Nat.reduceLT, Nat.reduceLeDiff, Nat.reduceAdd, hh, hh0, hh1, hk0, hk1, Int.natCast_nonneg, Int.ofNat_lt, Nat.lt_add_one, Nat.le_refl, px, List.cons_ne_nil] <;> rfl) (by simp only [go_sem, ↓reduceIte, Nat.reduceEqDiff, Nat.reduceLT, Nat.reduceLeDiff, Nat.reduceAdd, hh, hh0, hh1, hk0, hk1, Int.natCast_nonneg, Int.ofNat_lt, Nat.lt_add_one, Nat.le_refl, px, List.cons_ne_nil] <;> rfl) (by simp only [go_sem, ↓reduceIte, Nat.reduceEqDiff, Nat.reduceLT, Nat.reduceLeDiff, Nat.reduceAdd, hh, hh0, hh1, hk0, hk1, Int.natCast_nonneg, Int.ofNat_lt, Nat.lt_add_one, Nat.le_refl, px, List.cons_ne_nil] <;> rfl) Try.td49 (by rw [Try.zp37]; rfl) (by intro el hel; cases hel) (isEls_item x) (by rw [Try.by37]; decide) (by rw [Try.by37]; simp) (by simp only [go_sem, ↓reduceIte, Nat.reduceEqDiff, Nat.reduceLT, Nat.reduceLeDiff, Nat.reduceAdd, hh, hh0, hh1, hk0, hk1, Int.natCast_nonneg, Int.ofNat_lt, Nat.lt_add_one, Nat.le_refl, px, List.cons_ne_nil] <;> rfl) ?_
    refine DetC.pre (pre := [_]) (by simp only [go_sem, ↓reduceIte, Nat.reduceEqDiff, Nat.reduceLT, Nat.reduceLeDiff, Nat.reduceAdd, hh, hh0, hh1, hk0, hk1, Int.natCast_nonneg, Int.ofNat_lt, Nat.lt_add_one, Nat.le_refl, px, List.cons_ne_nil] <;> rfl) ?_
    refine DetC.eff (by decide) (by simp only [go_sem, ↓reduceIte, Nat.reduceEqDiff, Nat.reduceLT, Nat.reduceLeDiff, Nat.reduceAdd, hh, hh0, hh1, hk0, hk1, Int.natCast_nonneg, Int.ofNat_lt, Nat.lt_add_one, Nat.le_refl, px, List.cons_ne_nil] <;> rfl) (by simp only [go_sem, ↓reduceIte, Nat.reduceEqDiff, Nat.reduceLT, Nat.reduceLeDiff, Nat.reduceAdd, hh, hh0, hh1, hk0, hk1, Int.natCast_nonneg, Int.ofNat_lt, Nat.lt_add_one, Nat.le_refl, px, List.cons_ne_nil] <;> rfl) ?_
    refine DetC.nil ?_
    refine Run.envEq' (by simp only [go_sem, ↓reduceIte, Nat.reduceEqDiff, Nat.reduceLT, Nat.reduceLeDiff, Nat.reduceAdd, hh, hh0, hh1, hk0, hk1, Int.natCast_nonneg, Int.ofNat_lt, Nat.lt_add_one, Nat.le_refl, px, List.cons_ne_nil] <;> rfl) ?_
    refine Run.nil ?_
    refine Ret.all (by simp only [Try.f55, go_sem] <;> rfl) ?_
    refine ⟨s.nxt + 1, by omega, ?_, ?_, ?_, fun i hi h1 => ?_⟩
    · simp only [go_sem, ↓reduceIte]
    · simp only [go_sem, ↓reduceIte, hk1, px]
    · simp only [go_sem]; omega
    · have h3 : (i = s.nxt) = False := eq_false (by omega)
      have h4 : ∀ k, (i = s.nxt + k) = False := fun k => eq_false (by omega)
      simp only [go_sem, ↓reduceIte, h1, h3, h4]
  · cases hc0

theorem items_Pop {h L n : Nat} {els : List PV} {nx : PV} {x : Item} {s : St} (hh : s.blk h = some (.row 51 [.agg [.own L 0 (n + 1), nx]])) (hL : s.blk L = some (.row 37 els)) (hne : h ≠ L) (hx : els[n]? = some x.pv) (hsz : n ≤ 1000000) :
    ACalls Try.prog 54 [.ptr h 0 0] s (fun r s' => r = .iface 37 x.pv ∧ s'.blk h = some (.row 51 [.agg [.own L 0 n, nx]]) ∧ s.nxt ≤ s'.nxt ∧ ∀ i, i < s.nxt → i ≠ h → s'.blk i = s.blk i) := by
  refine ACalls.body Try.func54 rfl (by simp [Try.f54]) (by decide) fun hwf => ?_
  show Run _ _ [.code _] _ _ _
  have hlt := lt_of_blk hwf hh
  have hLt := lt_of_blk hwf hL
  have hh0 : (h = s.nxt) = False := eq_false (by omega)
  have hl0 : (L = s.nxt) = False := eq_false (by omega)
  have hh1 : ∀ k, (h = s.nxt + k) = False := fun k => eq_false (by omega)
  have hl1 : ∀ k, (L = s.nxt + k) = False := fun k => eq_false (by omega)
  have hne1 : (h = L) = False := eq_false hne
  have hne2 : (L = h) = False := eq_false (Ne.symm hne)
  have hk0 : (s.nxt = h) = False := eq_false (by omega)
  have hk1 : (s.nxt + 1 = h) = False := eq_false (by omega)
  have hk2 : (s.nxt = L) = False := eq_false (by omega)
  have hk3 : (s.nxt + 1 = L) = False := eq_false (by omega)
  have px : x.pv = .agg [.int .i64 x.tick, .int .i64 x.order, .int .i64 x.key] := rfl
  have hw : IntKind.i64.wrap (((n + 1 : Nat) : Int) - 1) = (n : Int) := by rw [wrap_i64 (by omega)]; omega
  have hnle : (((n : Nat) : Int) ≤ ((n + 1 : Nat) : Int)) = True := eq_true (by omega)
  have hn1 : n < els.length := (List.getElem?_eq_some_iff.1 hx).1
  simp only [px] at hx
  refine Run.seq ?_
  refine Run.region ?_
  refine RunO.all (by simp only [go_sem, ↓reduceIte, Nat.reduceEqDiff, Nat.reduceLT, Nat.reduceLeDiff, Nat.reduceAdd, hh, hL, hh0, hl0, hh1, hl1, hne1, hne2, hk0, hk1, hk2, hk3, Int.natCast_nonneg, Int.ofNat_lt, Nat.lt_add_one, Nat.le_refl, hx, hw, px, hn1, hnle, Int.le_refl] <;> rfl) ?_
  refine RunO.live' [0] (by simp only [go_sem, ↓reduceIte, Nat.reduceEqDiff, Nat.reduceLT, Nat.reduceLeDiff, Nat.reduceAdd, hh, hL, hh0, hl0, hh1, hl1, hne1, hne2, hk0, hk1, hk2, hk3, Int.natCast_nonneg, Int.ofNat_lt, Nat.lt_add_one, Nat.le_refl, hx, hw, px, hn1, hnle, Int.le_refl] <;> rfl) ?_
  refine Run.seq ?_
  refine Run.region ?_
  refine RunO.all (by simp only [go_sem, ↓reduceIte, Nat.reduceEqDiff, Nat.reduceLT, Nat.reduceLeDiff, Nat.reduceAdd, hh, hL, hh0, hl0, hh1, hl1, hne1, hne2, hk0, hk1, hk2, hk3, Int.natCast_nonneg, Int.ofNat_lt, Nat.lt_add_one, Nat.le_refl, hx, hw, px, hn1, hnle, Int.le_refl] <;> rfl) ?_
  refine RunO.live' [0, 3] (by simp only [go_sem, ↓reduceIte, Nat.reduceEqDiff, Nat.reduceLT, Nat.reduceLeDiff, Nat.reduceAdd, hh, hL, hh0, hl0, hh1, hl1, hne1, hne2, hk0, hk1, hk2, hk3, Int.natCast_nonneg, Int.ofNat_lt, Nat.lt_add_one, Nat.le_refl, hx, hw, px, hn1, hnle, Int.le_refl] <;> rfl) ?_
  refine Run.seq ?_
  refine Run.region ?_
  refine RunO.all (by simp only [go_sem, ↓reduceIte, Nat.reduceEqDiff, Nat.reduceLT, Nat.reduceLeDiff, Nat.reduceAdd, hh, hL, hh0, hl0, hh1, hl1, hne1, hne2, hk0, hk1, hk2, hk3, Int.natCast_nonneg, Int.ofNat_lt, Nat.lt_add_one, Nat.le_refl, hx, hw, px, hn1, hnle, Int.le_refl] <;> rfl) ?_
  refine RunO.live' [0, 3, 4] (by simp only [go_sem, ↓reduceIte, Nat.reduceEqDiff, Nat.reduceLT, Nat.reduceLeDiff, Nat.reduceAdd, hh, hL, hh0, hl0, hh1, hl1, hne1, hne2, hk0, hk1, hk2, hk3, Int.natCast_nonneg, Int.ofNat_lt, Nat.lt_add_one, Nat.le_refl, hx, hw, px, hn1, hnle, Int.le_refl] <;> rfl) ?_
  refine Run.seq ?_
  refine Run.region ?_
  refine RunO.all (by simp only [go_sem, ↓reduceIte, Nat.reduceEqDiff, Nat.reduceLT, Nat.reduceLeDiff, Nat.reduceAdd, hh, hL, hh0, hl0, hh1, hl1, hne1, hne2, hk0, hk1, hk2, hk3, Int.natCast_nonneg, Int.ofNat_lt, Nat.lt_add_one, Nat.le_refl, hx, hw, px, hn1, hnle, Int.le_refl] <;> rfl) ?_
  refine RunO.live' [4] (by simp only [go_sem, ↓reduceIte, Nat.reduceEqDiff, Nat.reduceLT, Nat.reduceLeDiff, Nat.reduceAdd, hh, hL, hh0, hl0, hh1, hl1, hne1, hne2, hk0, hk1, hk2, hk3, Int.natCast_nonneg, Int.ofNat_lt, Nat.lt_add_one, Nat.le_refl, hx, hw, px, hn1, hnle, Int.le_refl] <;> rfl) ?_
  refine Run.seq ?_
  refine Run.region ?_
  refine RunO.all (by simp only [go_sem, ↓reduceIte, Nat.reduceEqDiff, Nat.reduceLT, Nat.reduceLeDiff, Nat.reduceAdd, hh, hL, hh0, hl0, hh1, hl1, hne1, hne2, hk0, hk1, hk2, hk3, Int.natCast_nonneg, Int.ofNat_lt, Nat.lt_add_one, Nat.le_refl, hx, hw, px, hn1, hnle, Int.le_refl] <;> rfl) ?_
  refine RunO.live' [2] (by simp only [go_sem, ↓reduceIte, Nat.reduceEqDiff, Nat.reduceLT, Nat.reduceLeDiff, Nat.reduceAdd, hh, hL, hh0, hl0, hh1, hl1, hne1, hne2, hk0, hk1, hk2, hk3, Int.natCast_nonneg, Int.ofNat_lt, Nat.lt_add_one, Nat.le_refl, hx, hw, px, hn1, hnle, Int.le_refl] <;> rfl) ?_
  refine Run.ret ?_
  refine Ret.all (by simp only [Try.f54, go_sem] <;> rfl) ⟨by rw [px], ?_, ?_, fun i hi h1 => ?_⟩
  · simp only [go_sem, ↓reduceIte]
  · simp only [go_sem]; omega
  · have h3 : (i = s.nxt) = False := eq_false (by omega)
    simp only [go_sem, ↓reduceIte, h1, h3]

theorem heap_up {h L n j : Nat} {zs : List Item} {nx : PV} {s : St} (hh : s.blk h = some (.row 51 [.agg [.own L 0 n, nx]])) (hL : s.blk L = some (.row 37 (zs.map Item.pv))) (hne : h ≠ L) (hn : n ≤ zs.length) (hsz : n ≤ 1000000)
    (hj : j < n) (hinv : UpInv (at0 zs) n j) : ACalls Try.prog 26 [.iface 53 (.ptr h 0 0), .int .i64 j] s (fun r s' => ∃ ys, s' = s.set L (some (.row 37 (ys.map Item.pv))) ∧ Swaps zs ys n ∧ HeapF (at0 ys) n 0) := by
  refine ACalls.body Try.func26 rfl (by simp [Try.f26]) (by decide) fun hwf => ?_
  show Run _ _ [.code _] _ _ _
  have hlt := lt_of_blk hwf hh
  have hLt := lt_of_blk hwf hL
  have hh0 : (h = s.nxt) = False := eq_false (by omega)
  have hl0 : (L = s.nxt) = False := eq_false (by omega)
  have hh1 : ∀ k, (h = s.nxt + k) = False := fun k => eq_false (by omega)
  have hl1 : ∀ k, (L = s.nxt + k) = False := fun k => eq_false (by omega)
  have hne1 : (h = L) = False := eq_false hne
  have hne2 : (L = h) = False := eq_false (Ne.symm hne)
  have hk0 : (s.nxt = h) = False := eq_false (by omega)
  have hk1 : (s.nxt + 1 = h) = False := eq_false (by omega)
  have hk2 : (s.nxt = L) = False := eq_false (by omega)
  have hk3 : (s.nxt + 1 = L) = False := eq_false (by omega)
  refine Run.block ?_
  -- loop 0, live [0, 1]
  refine Run.loop (fun e s' => ∃ (ys : List Item) (j1 : Nat), e = [(0, .iface 53 (.ptr h 0 0)), (1, .int .i64 j1)] ∧ s' = s.set L (some (.row 37 (ys.map Item.pv))) ∧ Swaps zs ys n ∧ UpInv (at0 ys) n j1 ∧ j1 < n) (fun e s' => ivar e 1) ?_ ?_
  · exact ⟨zs, j, rfl, (set_self hL).symm, Swaps.refl _ _, hinv, hj⟩
  rintro e s' ⟨ys, j1, rfl, hs, hsw, hup, hjn⟩
  subst s'
  have hyl := hsw.len
  refine Run.block ?_
  refine Run.seq ?_
  refine Run.region ?_
  refine RunO.all (by simp only [go_sem, ↓reduceIte, Nat.reduceEqDiff, Nat.reduceLT, Nat.reduceLeDiff, Nat.reduceAdd, hh, hL, hne1, hne2, Int.natCast_nonneg, Nat.lt_add_one] <;> rfl) ?_
  refine RunO.live' [0, 1, 4] (by simp only [go_sem, ↓reduceIte, Nat.reduceEqDiff, Nat.reduceLT, Nat.reduceLeDiff, Nat.reduceAdd, hh, hL, hne1, hne2, Int.natCast_nonneg, Nat.lt_add_one] <;> rfl) ?_
  refine Run.seq ?_
  refine Run.seq ?_
  have hix := up_ix j1 (by omega)
  refine Run.region ?_
  refine RunO.ops (pre := [_, _, _, _]) (by simp only [go_sem, ↓reduceIte, Nat.reduceEqDiff, Nat.reduceLT, Nat.reduceLeDiff, Nat.reduceAdd, hh, hL, hne1, hne2, Int.natCast_nonneg, Nat.lt_add_one, hix] <;> rfl) ?_
  refine RunO.bcase 11 (by simp only [go_sem, ↓reduceIte, Nat.reduceEqDiff, Nat.reduceLT, Nat.reduceLeDiff, Nat.reduceAdd, hh, hL, hne1, hne2, Int.natCast_nonneg, Nat.lt_add_one, hix] <;> rfl) (fun hg3 => ?_) (fun hg3 => ?_)
  · refine RunO.gskip' (by simp only [go_sem, ↓reduceIte, Nat.reduceEqDiff, Nat.reduceLT, Nat.reduceLeDiff, Nat.reduceAdd, hh, hL, hne1, hne2, Int.natCast_nonneg, Nat.lt_add_one, hix] <;> rfl) ?_
    refine RunO.gskip' (by simp only [go_sem, ↓reduceIte, Nat.reduceEqDiff, Nat.reduceLT, Nat.reduceLeDiff, Nat.reduceAdd, hh, hL, hne1, hne2, Int.natCast_nonneg, Nat.lt_add_one, hix] <;> rfl) ?_
    refine RunO.gskip' (by simp only [go_sem, ↓reduceIte, Nat.reduceEqDiff, Nat.reduceLT, Nat.reduceLeDiff, Nat.reduceAdd, hh, hL, hne1, hne2, Int.natCast_nonneg, Nat.lt_add_one, hix] <;> rfl) ?_
    refine RunO.gskip' (by simp only [go_sem, ↓reduceIte, Nat.reduceEqDiff, Nat.reduceLT, Nat.reduceLeDiff, Nat.reduceAdd, hh, hL, hne1, hne2, Int.natCast_nonneg, Nat.lt_add_one, hix] <;> rfl) ?_
    refine RunO.gskip' (by simp only [go_sem, ↓reduceIte, Nat.reduceEqDiff, Nat.reduceLT, Nat.reduceLeDiff, Nat.reduceAdd, hh, hL, hne1, hne2, Int.natCast_nonneg, Nat.lt_add_one, hix] <;> rfl) ?_
    refine RunO.all (by simp only [go_sem, ↓reduceIte, Nat.reduceEqDiff, Nat.reduceLT, Nat.reduceLeDiff, Nat.reduceAdd, hh, hL, hne1, hne2, Int.natCast_nonneg, Nat.lt_add_one, hix] <;> rfl) ?_
    refine RunO.live' [0, 1, 4, 17] (by simp only [go_sem, ↓reduceIte, Nat.reduceEqDiff, Nat.reduceLT, Nat.reduceLeDiff, Nat.reduceAdd, hh, hL, hne1, hne2, Int.natCast_nonneg, Nat.lt_add_one, hix] <;> rfl) ?_
    refine Run.cond (by simp only [go_sem, ↓reduceIte, Nat.reduceEqDiff, Nat.reduceLT, Nat.reduceLeDiff, Nat.reduceAdd, hh, hL, hne1, hne2, Int.natCast_nonneg, Nat.lt_add_one, hix] <;> rfl) (fun hc0 => ?_) (fun hc0 => ?_)
    · have hc := hc0
      refine Run.exit ?_
      show Run _ _ _ _ _ _
      refine Run.nil ?_
      refine Ret.all (by simp only [Try.f26, go_sem] <;> rfl) ⟨ys, rfl, hsw, hup.done ?_⟩
      first
        | (left; have := of_decide_eq_true hg3; omega)
        | (right; simpa using hc)
    · cases hc0
  · refine RunO.gdo (by simp only [go_sem, ↓reduceIte, Nat.reduceEqDiff, Nat.reduceLT, Nat.reduceLeDiff, Nat.reduceAdd, hh, hL, hne1, hne2, Int.natCast_nonneg, Nat.lt_add_one, hix] <;> rfl) (by simp only [go_sem, ↓reduceIte, Nat.reduceEqDiff, Nat.reduceLT, Nat.reduceLeDiff, Nat.reduceAdd, hh, hL, hne1, hne2, Int.natCast_nonneg, Nat.lt_add_one, hix] <;> rfl) ?_
    refine RunO.gdo (by simp only [go_sem, ↓reduceIte, Nat.reduceEqDiff, Nat.reduceLT, Nat.reduceLeDiff, Nat.reduceAdd, hh, hL, hne1, hne2, Int.natCast_nonneg, Nat.lt_add_one, hix] <;> rfl) (by simp only [go_sem, ↓reduceIte, Nat.reduceEqDiff, Nat.reduceLT, Nat.reduceLeDiff, Nat.reduceAdd, hh, hL, hne1, hne2, Int.natCast_nonneg, Nat.lt_add_one, hix] <;> rfl) ?_
    refine RunO.gdo (by simp only [go_sem, ↓reduceIte, Nat.reduceEqDiff, Nat.reduceLT, Nat.reduceLeDiff, Nat.reduceAdd, hh, hL, hne1, hne2, Int.natCast_nonneg, Nat.lt_add_one, hix] <;> rfl) (by simp only [go_sem, ↓reduceIte, Nat.reduceEqDiff, Nat.reduceLT, Nat.reduceLeDiff, Nat.reduceAdd, hh, hL, hne1, hne2, Int.natCast_nonneg, Nat.lt_add_one, hix] <;> rfl) ?_
    refine RunO.invoke (by simp only [go_sem, ↓reduceIte, Nat.reduceEqDiff, Nat.reduceLT, Nat.reduceLeDiff, Nat.reduceAdd, hh, hL, hne1, hne2, Int.natCast_nonneg, Nat.lt_add_one, hix] <;> rfl) (by simp only [go_sem, ↓reduceIte, Nat.reduceEqDiff, Nat.reduceLT, Nat.reduceLeDiff, Nat.reduceAdd, hh, hL, hne1, hne2, Int.natCast_nonneg, Nat.lt_add_one, hix] <;> rfl) (by kernel_rfl) ((items_Less (blk_set_self _ _ _) (map_at0 (by omega)) (map_at0 (by omega)) (by omega) (by omega)).mono ?_)
    rintro r s' ⟨rfl, hs⟩
    subst s'
    refine RunO.gdo (by simp only [go_sem, ↓reduceIte, Nat.reduceEqDiff, Nat.reduceLT, Nat.reduceLeDiff, Nat.reduceAdd, hh, hL, hne1, hne2, Int.natCast_nonneg, Nat.lt_add_one, hix] <;> rfl) (by simp only [go_sem, ↓reduceIte, Nat.reduceEqDiff, Nat.reduceLT, Nat.reduceLeDiff, Nat.reduceAdd, hh, hL, hne1, hne2, Int.natCast_nonneg, Nat.lt_add_one, hix] <;> rfl) ?_
    refine RunO.all (by simp only [go_sem, ↓reduceIte, Nat.reduceEqDiff, Nat.reduceLT, Nat.reduceLeDiff, Nat.reduceAdd, hh, hL, hne1, hne2, Int.natCast_nonneg, Nat.lt_add_one, hix] <;> rfl) ?_
    refine RunO.live' [0, 1, 4, 17] (by simp only [go_sem, ↓reduceIte, Nat.reduceEqDiff, Nat.reduceLT, Nat.reduceLeDiff, Nat.reduceAdd, hh, hL, hne1, hne2, Int.natCast_nonneg, Nat.lt_add_one, hix] <;> rfl) ?_
    refine Run.cond (by simp only [go_sem, ↓reduceIte, Nat.reduceEqDiff, Nat.reduceLT, Nat.reduceLeDiff, Nat.reduceAdd, hh, hL, hne1, hne2, Int.natCast_nonneg, Nat.lt_add_one, hix] <;> rfl) (fun hc0 => ?_) (fun hc0 => ?_)
    · have hc := hc0
      refine Run.exit ?_
      show Run _ _ _ _ _ _
      refine Run.nil ?_
      refine Ret.all (by simp only [Try.f26, go_sem] <;> rfl) ⟨ys, rfl, hsw, hup.done ?_⟩
      first
        | (left; have := of_decide_eq_true hg3; omega)
        | (right; simpa using hc)
    · have hc := hc0
      refine Run.skip ?_
      refine Run.seq ?_
      refine Run.region ?_
      refine RunO.ops (pre := [_, _, _]) (by simp only [go_sem, ↓reduceIte, Nat.reduceEqDiff, Nat.reduceLT, Nat.reduceLeDiff, Nat.reduceAdd, hh, hL, hne1, hne2, Int.natCast_nonneg, Nat.lt_add_one, hix] <;> rfl) ?_
      refine RunO.invoke (by simp only [go_sem, ↓reduceIte, Nat.reduceEqDiff, Nat.reduceLT, Nat.reduceLeDiff, Nat.reduceAdd, hh, hL, hne1, hne2, Int.natCast_nonneg, Nat.lt_add_one, hix] <;> rfl) (by simp only [go_sem, ↓reduceIte, Nat.reduceEqDiff, Nat.reduceLT, Nat.reduceLeDiff, Nat.reduceAdd, hh, hL, hne1, hne2, Int.natCast_nonneg, Nat.lt_add_one, hix] <;> rfl) (by kernel_rfl) ((items_Swap (blk_set_self _ _ _) (map_at0 (by omega)) (map_at0 (by omega)) (by omega) (by omega)).mono ?_)
      rintro r s' hs
      subst s'
      refine RunO.live' [0, 4] (by simp only [go_sem, ↓reduceIte, Nat.reduceEqDiff, Nat.reduceLT, Nat.reduceLeDiff, Nat.reduceAdd, hh, hL, hne1, hne2, Int.natCast_nonneg, Nat.lt_add_one, hix] <;> rfl) ?_
      refine Run.region ?_
      refine RunO.all (by simp only [go_sem, ↓reduceIte, Nat.reduceEqDiff, Nat.reduceLT, Nat.reduceLeDiff, Nat.reduceAdd, hh, hL, hne1, hne2, Int.natCast_nonneg, Nat.lt_add_one, hix] <;> rfl) ?_
      refine RunO.live' [0, 1] (by simp only [go_sem, ↓reduceIte, Nat.reduceEqDiff, Nat.reduceLT, Nat.reduceLeDiff, Nat.reduceAdd, hh, hL, hne1, hne2, Int.natCast_nonneg, Nat.lt_add_one, hix] <;> rfl) ?_
      refine Run.blk ?_
      have hj0 : 0 < j1 := by
        have := of_decide_eq_false hg3
        omega
      refine Run.lp ⟨⟨swl ys ((j1 - 1) / 2) j1, (j1 - 1) / 2, rfl, ?_, hsw.trans (Swaps.swl (by omega) (by omega) (by omega)), ?_, by omega⟩, ?_⟩
      · rw [set_set, map_swl]
      · rw [at0_swl (by omega) (by omega)]
        exact hup.step hj0 (by simpa using hc) hjn
      · simp only [ivar, go_sem, ↓reduceIte, Nat.reduceEqDiff]
        omega

theorem heap_down {h L n m lo : Nat} {zs : List Item} {nx : PV} {s : St} (hh : s.blk h = some (.row 51 [.agg [.own L 0 n, nx]])) (hL : s.blk L = some (.row 37 (zs.map Item.pv))) (hne : h ≠ L) (hn : n ≤ zs.length) (hsz : n ≤ 1000000)
    (hm : m ≤ n) (hlo : lo ≤ n) (hinv : DownInv (at0 zs) m lo lo) : ACalls Try.prog 27 [.iface 53 (.ptr h 0 0), .int .i64 lo, .int .i64 m] s (fun r s' => ∃ ys, s' = s.set L (some (.row 37 (ys.map Item.pv))) ∧ Swaps zs ys m ∧ HeapF (at0 ys) m lo) := by
  refine ACalls.body Try.func27 rfl (by simp [Try.f27]) (by decide) fun hwf => ?_
  show Run _ _ [.code _] _ _ _
  have hlt := lt_of_blk hwf hh
  have hLt := lt_of_blk hwf hL
  have hh0 : (h = s.nxt) = False := eq_false (by omega)
  have hl0 : (L = s.nxt) = False := eq_false (by omega)
  have hh1 : ∀ k, (h = s.nxt + k) = False := fun k => eq_false (by omega)
  have hl1 : ∀ k, (L = s.nxt + k) = False := fun k => eq_false (by omega)
  have hne1 : (h = L) = False := eq_false hne
  have hne2 : (L = h) = False := eq_false (Ne.symm hne)
  have hk0 : (s.nxt = h) = False := eq_false (by omega)
  have hk1 : (s.nxt + 1 = h) = False := eq_false (by omega)
  have hk2 : (s.nxt = L) = False := eq_false (by omega)
  have hk3 : (s.nxt + 1 = L) = False := eq_false (by omega)
  refine Run.seq ?_
  refine Run.region ?_
  refine RunO.all (by simp only [go_sem, ↓reduceIte, Nat.reduceEqDiff, Nat.reduceLT, Nat.reduceLeDiff, Nat.reduceAdd, hh, hL, hne1, hne2, Int.natCast_nonneg, Nat.lt_add_one] <;> rfl) ?_
  refine RunO.live' [0, 1, 2] (by simp only [go_sem, ↓reduceIte, Nat.reduceEqDiff, Nat.reduceLT, Nat.reduceLeDiff, Nat.reduceAdd, hh, hL, hne1, hne2, Int.natCast_nonneg, Nat.lt_add_one] <;> rfl) ?_
  refine Run.seq ?_
  refine Run.region ?_
  refine RunO.all (by simp only [go_sem, ↓reduceIte, Nat.reduceEqDiff, Nat.reduceLT, Nat.reduceLeDiff, Nat.reduceAdd, hh, hL, hne1, hne2, Int.natCast_nonneg, Nat.lt_add_one] <;> rfl) ?_
  refine RunO.live' [0, 1, 2, 7] (by simp only [go_sem, ↓reduceIte, Nat.reduceEqDiff, Nat.reduceLT, Nat.reduceLeDiff, Nat.reduceAdd, hh, hL, hne1, hne2, Int.natCast_nonneg, Nat.lt_add_one] <;> rfl) ?_
  refine Run.seq ?_
  refine Run.block ?_
  -- loop 0, live [0, 1, 2, 7]
  refine Run.loop (fun e s' => ∃ (ys : List Item) (i : Nat), e = [(0, .iface 53 (.ptr h 0 0)), (1, .int .i64 lo), (2, .int .i64 m), (7, .int .i64 i)] ∧ s' = s.set L (some (.row 37 (ys.map Item.pv))) ∧ Swaps zs ys m ∧ DownInv (at0 ys) m lo i ∧ lo ≤ i ∧ i ≤ n) (fun e s' => n - ivar e 7) ?_ ?_
  · exact ⟨zs, lo, rfl, (set_self hL).symm, Swaps.refl _ _, hinv, Nat.le_refl _, hlo⟩
  rintro e s' ⟨ys, i, rfl, hs, hsw, hdn, hli, hin⟩
  subst s'
  have hyl := hsw.len
  have hw1 : IntKind.i64.wrap (IntKind.i64.wrap (2 * (i : Int)) + 1) = ((2 * i + 1 : Nat) : Int) := by
    rw [wrap_i64 (n := 2 * (i : Int)) (by omega), wrap_i64 (by omega)]; omega
  have hw2 : IntKind.i64.wrap (((2 * i + 1 : Nat) : Int) + 1) = ((2 * i + 2 : Nat) : Int) := by
    rw [wrap_i64 (by omega)]; omega
  refine Run.block ?_
  refine Run.seq ?_
  refine Run.region ?_
  refine RunO.all (by simp only [go_sem, ↓reduceIte, Nat.reduceEqDiff, Nat.reduceLT, Nat.reduceLeDiff, Nat.reduceAdd, hh, hL, hne1, hne2, Int.natCast_nonneg, Nat.lt_add_one] <;> rfl) ?_
  refine RunO.live' [0, 1, 2, 7, 8] (by simp only [go_sem, ↓reduceIte, Nat.reduceEqDiff, Nat.reduceLT, Nat.reduceLeDiff, Nat.reduceAdd, hh, hL, hne1, hne2, Int.natCast_nonneg, Nat.lt_add_one] <;> rfl) ?_
  refine Run.seq ?_
  refine Run.seq ?_
  refine Run.region ?_
  refine RunO.all (by simp only [go_sem, ↓reduceIte, Nat.reduceEqDiff, Nat.reduceLT, Nat.reduceLeDiff, Nat.reduceAdd, hh, hL, hne1, hne2, Int.natCast_nonneg, Nat.lt_add_one, hw1, hw2] <;> rfl) ?_
  refine RunO.live' [0, 1, 2, 7, 8, 21] (by simp only [go_sem, ↓reduceIte, Nat.reduceEqDiff, Nat.reduceLT, Nat.reduceLeDiff, Nat.reduceAdd, hh, hL, hne1, hne2, Int.natCast_nonneg, Nat.lt_add_one, hw1, hw2] <;> rfl) ?_
  refine Run.cond (by simp only [go_sem, ↓reduceIte, Nat.reduceEqDiff, Nat.reduceLT, Nat.reduceLeDiff, Nat.reduceAdd, hh, hL, hne1, hne2, Int.natCast_nonneg, Nat.lt_add_one, hw1, hw2] <;> rfl) (fun hc0 => ?_) (fun hc0 => ?_)
  · have hc := hc0
    refine Run.exit ?_
    show Run _ _ _ _ _ _
    refine Run.seq ?_
    refine Run.region ?_
    refine RunO.all (by simp only [go_sem, ↓reduceIte, Nat.reduceEqDiff, Nat.reduceLT, Nat.reduceLeDiff, Nat.reduceAdd, hh, hL, hne1, hne2, Int.natCast_nonneg, Nat.lt_add_one, hw1, hw2] <;> rfl) ?_
    refine RunO.live' [6] (by simp only [go_sem, ↓reduceIte, Nat.reduceEqDiff, Nat.reduceLT, Nat.reduceLeDiff, Nat.reduceAdd, hh, hL, hne1, hne2, Int.natCast_nonneg, Nat.lt_add_one, hw1, hw2] <;> rfl) ?_
    refine Run.ret ?_
    first
      | exact Ret.all (by simp only [Try.f27, go_sem] <;> rfl) ⟨ys, rfl, hsw, hdn.done' hsel (by simpa using hc2)⟩
      | refine Ret.all (by simp only [Try.f27, go_sem] <;> rfl) ⟨ys, rfl, hsw, hdn.done fun c c0 cm ci => ?_⟩
        simp at hc0
        omega
  · have hc := hc0
    refine Run.skip ?_
    refine Run.seq ?_
    have hb : 2 * i + 1 < m := by simp at hc0; omega
    refine Run.region ?_
    refine RunO.all (by simp only [go_sem, ↓reduceIte, Nat.reduceEqDiff, Nat.reduceLT, Nat.reduceLeDiff, Nat.reduceAdd, hh, hL, hne1, hne2, Int.natCast_nonneg, Nat.lt_add_one, hw1, hw2] <;> rfl) ?_
    refine RunO.live' [0, 1, 2, 7, 8, 9] (by simp only [go_sem, ↓reduceIte, Nat.reduceEqDiff, Nat.reduceLT, Nat.reduceLeDiff, Nat.reduceAdd, hh, hL, hne1, hne2, Int.natCast_nonneg, Nat.lt_add_one, hw1, hw2] <;> rfl) ?_
    refine Run.seq ?_
    refine Run.seq ?_
    refine Run.region ?_
    refine RunO.all (by simp only [go_sem, ↓reduceIte, Nat.reduceEqDiff, Nat.reduceLT, Nat.reduceLeDiff, Nat.reduceAdd, hh, hL, hne1, hne2, Int.natCast_nonneg, Nat.lt_add_one, hw1, hw2] <;> rfl) ?_
    refine RunO.live' [0, 1, 2, 7, 8, 9, 10] (by simp only [go_sem, ↓reduceIte, Nat.reduceEqDiff, Nat.reduceLT, Nat.reduceLeDiff, Nat.reduceAdd, hh, hL, hne1, hne2, Int.natCast_nonneg, Nat.lt_add_one, hw1, hw2] <;> rfl) ?_
    refine Run.seq ?_
    refine Run.region ?_
    refine RunO.ops (pre := [_, _, _, _]) (by simp only [go_sem, ↓reduceIte, Nat.reduceEqDiff, Nat.reduceLT, Nat.reduceLeDiff, Nat.reduceAdd, hh, hL, hne1, hne2, Int.natCast_nonneg, Nat.lt_add_one, hw1, hw2] <;> rfl) ?_
    refine RunO.bcase 28 (by simp only [go_sem, ↓reduceIte, Nat.reduceEqDiff, Nat.reduceLT, Nat.reduceLeDiff, Nat.reduceAdd, hh, hL, hne1, hne2, Int.natCast_nonneg, Nat.lt_add_one, hw1, hw2] <;> rfl) (fun hg3 => ?_) (fun hg3 => ?_)
    · have hb2 : 2 * i + 2 < m := by have := of_decide_eq_true hg3; omega
      refine RunO.gdo (by simp only [go_sem, ↓reduceIte, Nat.reduceEqDiff, Nat.reduceLT, Nat.reduceLeDiff, Nat.reduceAdd, hh, hL, hne1, hne2, Int.natCast_nonneg, Nat.lt_add_one, hw1, hw2] <;> rfl) (by simp only [go_sem, ↓reduceIte, Nat.reduceEqDiff, Nat.reduceLT, Nat.reduceLeDiff, Nat.reduceAdd, hh, hL, hne1, hne2, Int.natCast_nonneg, Nat.lt_add_one, hw1, hw2] <;> rfl) ?_
      refine RunO.gdo (by simp only [go_sem, ↓reduceIte, Nat.reduceEqDiff, Nat.reduceLT, Nat.reduceLeDiff, Nat.reduceAdd, hh, hL, hne1, hne2, Int.natCast_nonneg, Nat.lt_add_one, hw1, hw2] <;> rfl) (by simp only [go_sem, ↓reduceIte, Nat.reduceEqDiff, Nat.reduceLT, Nat.reduceLeDiff, Nat.reduceAdd, hh, hL, hne1, hne2, Int.natCast_nonneg, Nat.lt_add_one, hw1, hw2] <;> rfl) ?_
      refine RunO.gdo (by simp only [go_sem, ↓reduceIte, Nat.reduceEqDiff, Nat.reduceLT, Nat.reduceLeDiff, Nat.reduceAdd, hh, hL, hne1, hne2, Int.natCast_nonneg, Nat.lt_add_one, hw1, hw2] <;> rfl) (by simp only [go_sem, ↓reduceIte, Nat.reduceEqDiff, Nat.reduceLT, Nat.reduceLeDiff, Nat.reduceAdd, hh, hL, hne1, hne2, Int.natCast_nonneg, Nat.lt_add_one, hw1, hw2] <;> rfl) ?_
      refine RunO.invoke (by simp only [go_sem, ↓reduceIte, Nat.reduceEqDiff, Nat.reduceLT, Nat.reduceLeDiff, Nat.reduceAdd, hh, hL, hne1, hne2, Int.natCast_nonneg, Nat.lt_add_one, hw1, hw2] <;> rfl) (by simp only [go_sem, ↓reduceIte, Nat.reduceEqDiff, Nat.reduceLT, Nat.reduceLeDiff, Nat.reduceAdd, hh, hL, hne1, hne2, Int.natCast_nonneg, Nat.lt_add_one, hw1, hw2] <;> rfl) (by kernel_rfl) ((items_Less (blk_set_self _ _ _) (map_at0 (by omega)) (map_at0 (by omega)) (by omega) (by omega)).mono ?_)
      rintro r s' ⟨rfl, hs⟩
      subst s'
      refine RunO.all (by simp only [go_sem, ↓reduceIte, Nat.reduceEqDiff, Nat.reduceLT, Nat.reduceLeDiff, Nat.reduceAdd, hh, hL, hne1, hne2, Int.natCast_nonneg, Nat.lt_add_one, hw1, hw2] <;> rfl) ?_
      refine RunO.live' [0, 1, 2, 7, 9, 10, 33] (by simp only [go_sem, ↓reduceIte, Nat.reduceEqDiff, Nat.reduceLT, Nat.reduceLeDiff, Nat.reduceAdd, hh, hL, hne1, hne2, Int.natCast_nonneg, Nat.lt_add_one, hw1, hw2] <;> rfl) ?_
      refine Run.cond (by simp only [go_sem, ↓reduceIte, Nat.reduceEqDiff, Nat.reduceLT, Nat.reduceLeDiff, Nat.reduceAdd, hh, hL, hne1, hne2, Int.natCast_nonneg, Nat.lt_add_one, hw1, hw2] <;> rfl) (fun hc1 => ?_) (fun hc1 => ?_)
      · have hc := hc1
        refine Run.region ?_
        refine RunO.all (by simp only [go_sem, ↓reduceIte, Nat.reduceEqDiff, Nat.reduceLT, Nat.reduceLeDiff, Nat.reduceAdd, hh, hL, hne1, hne2, Int.natCast_nonneg, Nat.lt_add_one, hw1, hw2] <;> rfl) ?_
        refine RunO.live' [0, 1, 2, 7, 9] (by simp only [go_sem, ↓reduceIte, Nat.reduceEqDiff, Nat.reduceLT, Nat.reduceLeDiff, Nat.reduceAdd, hh, hL, hne1, hne2, Int.natCast_nonneg, Nat.lt_add_one, hw1, hw2] <;> rfl) ?_
        refine Run.seq ?_
        refine Run.seq ?_
        first
          | have hsel : Sel (at0 ys) m i (2 * i + 2) := .inr ⟨rfl, hc1, hb2⟩
          | have hsel : Sel (at0 ys) m i (2 * i + 1) := .inl ⟨rfl, fun _ => hc1⟩
          | have hsel : Sel (at0 ys) m i (2 * i + 1) := .inl ⟨rfl, fun hh2 => absurd hh2 (by have := of_decide_eq_false hg3; omega)⟩
        refine Run.region ?_
        refine RunO.ops (pre := [_, _, _]) (by simp only [go_sem, ↓reduceIte, Nat.reduceEqDiff, Nat.reduceLT, Nat.reduceLeDiff, Nat.reduceAdd, hh, hL, hne1, hne2, Int.natCast_nonneg, Nat.lt_add_one, hw1, hw2] <;> rfl) ?_
        refine RunO.invoke (by simp only [go_sem, ↓reduceIte, Nat.reduceEqDiff, Nat.reduceLT, Nat.reduceLeDiff, Nat.reduceAdd, hh, hL, hne1, hne2, Int.natCast_nonneg, Nat.lt_add_one, hw1, hw2] <;> rfl) (by simp only [go_sem, ↓reduceIte, Nat.reduceEqDiff, Nat.reduceLT, Nat.reduceLeDiff, Nat.reduceAdd, hh, hL, hne1, hne2, Int.natCast_nonneg, Nat.lt_add_one, hw1, hw2] <;> rfl) (by kernel_rfl) ((items_Less (blk_set_self _ _ _) (map_at0 (by omega)) (map_at0 (by omega)) (by omega) (by omega)).mono ?_)
        rintro r s' ⟨rfl, hs⟩
        subst s'
        refine RunO.all (by simp only [go_sem, ↓reduceIte, Nat.reduceEqDiff, Nat.reduceLT, Nat.reduceLeDiff, Nat.reduceAdd, hh, hL, hne1, hne2, Int.natCast_nonneg, Nat.lt_add_one, hw1, hw2] <;> rfl) ?_
        refine RunO.live' [0, 1, 2, 7, 9, 39] (by simp only [go_sem, ↓reduceIte, Nat.reduceEqDiff, Nat.reduceLT, Nat.reduceLeDiff, Nat.reduceAdd, hh, hL, hne1, hne2, Int.natCast_nonneg, Nat.lt_add_one, hw1, hw2] <;> rfl) ?_
        refine Run.cond (by simp only [go_sem, ↓reduceIte, Nat.reduceEqDiff, Nat.reduceLT, Nat.reduceLeDiff, Nat.reduceAdd, hh, hL, hne1, hne2, Int.natCast_nonneg, Nat.lt_add_one, hw1, hw2] <;> rfl) (fun hc2 => ?_) (fun hc2 => ?_)
        · have hc := hc2
          refine Run.exit ?_
          show Run _ _ _ _ _ _
          refine Run.seq ?_
          refine Run.region ?_
          refine RunO.all (by simp only [go_sem, ↓reduceIte, Nat.reduceEqDiff, Nat.reduceLT, Nat.reduceLeDiff, Nat.reduceAdd, hh, hL, hne1, hne2, Int.natCast_nonneg, Nat.lt_add_one, hw1, hw2] <;> rfl) ?_
          refine RunO.live' [6] (by simp only [go_sem, ↓reduceIte, Nat.reduceEqDiff, Nat.reduceLT, Nat.reduceLeDiff, Nat.reduceAdd, hh, hL, hne1, hne2, Int.natCast_nonneg, Nat.lt_add_one, hw1, hw2] <;> rfl) ?_
          refine Run.ret ?_
          first
            | exact Ret.all (by simp only [Try.f27, go_sem] <;> rfl) ⟨ys, rfl, hsw, hdn.done' hsel (by simpa using hc2)⟩
            | refine Ret.all (by simp only [Try.f27, go_sem] <;> rfl) ⟨ys, rfl, hsw, hdn.done fun c c0 cm ci => ?_⟩
              simp at hc0
              omega
        · have hc := hc2
          refine Run.skip ?_
          refine Run.seq ?_
          refine Run.region ?_
          refine RunO.ops (pre := [_, _, _]) (by simp only [go_sem, ↓reduceIte, Nat.reduceEqDiff, Nat.reduceLT, Nat.reduceLeDiff, Nat.reduceAdd, hh, hL, hne1, hne2, Int.natCast_nonneg, Nat.lt_add_one, hw1, hw2] <;> rfl) ?_
          refine RunO.invoke (by simp only [go_sem, ↓reduceIte, Nat.reduceEqDiff, Nat.reduceLT, Nat.reduceLeDiff, Nat.reduceAdd, hh, hL, hne1, hne2, Int.natCast_nonneg, Nat.lt_add_one, hw1, hw2] <;> rfl) (by simp only [go_sem, ↓reduceIte, Nat.reduceEqDiff, Nat.reduceLT, Nat.reduceLeDiff, Nat.reduceAdd, hh, hL, hne1, hne2, Int.natCast_nonneg, Nat.lt_add_one, hw1, hw2] <;> rfl) (by kernel_rfl) ((items_Swap (blk_set_self _ _ _) (map_at0 (by omega)) (map_at0 (by omega)) (by omega) (by omega)).mono ?_)
          rintro r s' hs
          subst s'
          refine RunO.live' [0, 1, 2, 9] (by simp only [go_sem, ↓reduceIte, Nat.reduceEqDiff, Nat.reduceLT, Nat.reduceLeDiff, Nat.reduceAdd, hh, hL, hne1, hne2, Int.natCast_nonneg, Nat.lt_add_one, hw1, hw2] <;> rfl) ?_
          refine Run.region ?_
          refine RunO.all (by simp only [go_sem, ↓reduceIte, Nat.reduceEqDiff, Nat.reduceLT, Nat.reduceLeDiff, Nat.reduceAdd, hh, hL, hne1, hne2, Int.natCast_nonneg, Nat.lt_add_one, hw1, hw2] <;> rfl) ?_
          refine RunO.live' [0, 1, 2, 7] (by simp only [go_sem, ↓reduceIte, Nat.reduceEqDiff, Nat.reduceLT, Nat.reduceLeDiff, Nat.reduceAdd, hh, hL, hne1, hne2, Int.natCast_nonneg, Nat.lt_add_one, hw1, hw2] <;> rfl) ?_
          refine Run.blk ?_
          first
            | refine Run.lp ⟨⟨swl ys i (2 * i + 2), 2 * i + 2, rfl, by rw [set_set, map_swl], hsw.trans (Swaps.swl (by omega) (by omega) (by omega)), ?_, by omega, by omega⟩, ?_⟩
            | refine Run.lp ⟨⟨swl ys i (2 * i + 1), 2 * i + 1, rfl, by rw [set_set, map_swl], hsw.trans (Swaps.swl (by omega) (by omega) (by omega)), ?_, by omega, by omega⟩, ?_⟩
          · rw [at0_swl (by omega) (by omega)]
            exact hdn.step' hsel hb (by simpa using hc2) hli
          · simp only [ivar, go_sem, ↓reduceIte, Nat.reduceEqDiff]
            omega
      · have hc := hc1
        refine Run.skip ?_
        refine Run.seq ?_
        refine Run.seq ?_
        first
          | have hsel : Sel (at0 ys) m i (2 * i + 2) := .inr ⟨rfl, hc1, hb2⟩
          | have hsel : Sel (at0 ys) m i (2 * i + 1) := .inl ⟨rfl, fun _ => hc1⟩
          | have hsel : Sel (at0 ys) m i (2 * i + 1) := .inl ⟨rfl, fun hh2 => absurd hh2 (by have := of_decide_eq_false hg3; omega)⟩
        refine Run.region ?_
        refine RunO.ops (pre := [_, _, _]) (by simp only [go_sem, ↓reduceIte, Nat.reduceEqDiff, Nat.reduceLT, Nat.reduceLeDiff, Nat.reduceAdd, hh, hL, hne1, hne2, Int.natCast_nonneg, Nat.lt_add_one, hw1, hw2] <;> rfl) ?_
        refine RunO.invoke (by simp only [go_sem, ↓reduceIte, Nat.reduceEqDiff, Nat.reduceLT, Nat.reduceLeDiff, Nat.reduceAdd, hh, hL, hne1, hne2, Int.natCast_nonneg, Nat.lt_add_one, hw1, hw2] <;> rfl) (by simp only [go_sem, ↓reduceIte, Nat.reduceEqDiff, Nat.reduceLT, Nat.reduceLeDiff, Nat.reduceAdd, hh, hL, hne1, hne2, Int.natCast_nonneg, Nat.lt_add_one, hw1, hw2] <;> rfl) (by kernel_rfl) ((items_Less (blk_set_self _ _ _) (map_at0 (by omega)) (map_at0 (by omega)) (by omega) (by omega)).mono ?_)
        rintro r s' ⟨rfl, hs⟩
        subst s'
        refine RunO.all (by simp only [go_sem, ↓reduceIte, Nat.reduceEqDiff, Nat.reduceLT, Nat.reduceLeDiff, Nat.reduceAdd, hh, hL, hne1, hne2, Int.natCast_nonneg, Nat.lt_add_one, hw1, hw2] <;> rfl) ?_
        refine RunO.live' [0, 1, 2, 7, 9, 39] (by simp only [go_sem, ↓reduceIte, Nat.reduceEqDiff, Nat.reduceLT, Nat.reduceLeDiff, Nat.reduceAdd, hh, hL, hne1, hne2, Int.natCast_nonneg, Nat.lt_add_one, hw1, hw2] <;> rfl) ?_
        refine Run.cond (by simp only [go_sem, ↓reduceIte, Nat.reduceEqDiff, Nat.reduceLT, Nat.reduceLeDiff, Nat.reduceAdd, hh, hL, hne1, hne2, Int.natCast_nonneg, Nat.lt_add_one, hw1, hw2] <;> rfl) (fun hc2 => ?_) (fun hc2 => ?_)
        · have hc := hc2
          refine Run.exit ?_
          show Run _ _ _ _ _ _
          refine Run.seq ?_
          refine Run.region ?_
          refine RunO.all (by simp only [go_sem, ↓reduceIte, Nat.reduceEqDiff, Nat.reduceLT, Nat.reduceLeDiff, Nat.reduceAdd, hh, hL, hne1, hne2, Int.natCast_nonneg, Nat.lt_add_one, hw1, hw2] <;> rfl) ?_
          refine RunO.live' [6] (by simp only [go_sem, ↓reduceIte, Nat.reduceEqDiff, Nat.reduceLT, Nat.reduceLeDiff, Nat.reduceAdd, hh, hL, hne1, hne2, Int.natCast_nonneg, Nat.lt_add_one, hw1, hw2] <;> rfl) ?_
          refine Run.ret ?_
          first
            | exact Ret.all (by simp only [Try.f27, go_sem] <;> rfl) ⟨ys, rfl, hsw, hdn.done' hsel (by simpa using hc2)⟩
            | refine Ret.all (by simp only [Try.f27, go_sem] <;> rfl) ⟨ys, rfl, hsw, hdn.done fun c c0 cm ci => ?_⟩
              simp at hc0
              omega
        · have hc := hc2
          refine Run.skip ?_
          refine Run.seq ?_
          refine Run.region ?_
          refine RunO.ops (pre := [_, _, _]) (by simp only [go_sem, ↓reduceIte, Nat.reduceEqDiff, Nat.reduceLT, Nat.reduceLeDiff, Nat.reduceAdd, hh, hL, hne1, hne2, Int.natCast_nonneg, Nat.lt_add_one, hw1, hw2] <;> rfl) ?_
          refine RunO.invoke (by simp only [go_sem, ↓reduceIte, Nat.reduceEqDiff, Nat.reduceLT, Nat.reduceLeDiff, Nat.reduceAdd, hh, hL, hne1, hne2, Int.natCast_nonneg, Nat.lt_add_one, hw1, hw2] <;> rfl) (by simp only [go_sem, ↓reduceIte, Nat.reduceEqDiff, Nat.reduceLT, Nat.reduceLeDiff, Nat.reduceAdd, hh, hL, hne1, hne2, Int.natCast_nonneg, Nat.lt_add_one, hw1, hw2] <;> rfl) (by kernel_rfl) ((items_Swap (blk_set_self _ _ _) (map_at0 (by omega)) (map_at0 (by omega)) (by omega) (by omega)).mono ?_)
          rintro r s' hs
          subst s'
          refine RunO.live' [0, 1, 2, 9] (by simp only [go_sem, ↓reduceIte, Nat.reduceEqDiff, Nat.reduceLT, Nat.reduceLeDiff, Nat.reduceAdd, hh, hL, hne1, hne2, Int.natCast_nonneg, Nat.lt_add_one, hw1, hw2] <;> rfl) ?_
          refine Run.region ?_
          refine RunO.all (by simp only [go_sem, ↓reduceIte, Nat.reduceEqDiff, Nat.reduceLT, Nat.reduceLeDiff, Nat.reduceAdd, hh, hL, hne1, hne2, Int.natCast_nonneg, Nat.lt_add_one, hw1, hw2] <;> rfl) ?_
          refine RunO.live' [0, 1, 2, 7] (by simp only [go_sem, ↓reduceIte, Nat.reduceEqDiff, Nat.reduceLT, Nat.reduceLeDiff, Nat.reduceAdd, hh, hL, hne1, hne2, Int.natCast_nonneg, Nat.lt_add_one, hw1, hw2] <;> rfl) ?_
          refine Run.blk ?_
          first
            | refine Run.lp ⟨⟨swl ys i (2 * i + 2), 2 * i + 2, rfl, by rw [set_set, map_swl], hsw.trans (Swaps.swl (by omega) (by omega) (by omega)), ?_, by omega, by omega⟩, ?_⟩
            | refine Run.lp ⟨⟨swl ys i (2 * i + 1), 2 * i + 1, rfl, by rw [set_set, map_swl], hsw.trans (Swaps.swl (by omega) (by omega) (by omega)), ?_, by omega, by omega⟩, ?_⟩
          · rw [at0_swl (by omega) (by omega)]
            exact hdn.step' hsel hb (by simpa using hc2) hli
          · simp only [ivar, go_sem, ↓reduceIte, Nat.reduceEqDiff]
            omega
    · refine RunO.gskip' (by simp only [go_sem, ↓reduceIte, Nat.reduceEqDiff, Nat.reduceLT, Nat.reduceLeDiff, Nat.reduceAdd, hh, hL, hne1, hne2, Int.natCast_nonneg, Nat.lt_add_one, hw1, hw2] <;> rfl) ?_
      refine RunO.gskip' (by simp only [go_sem, ↓reduceIte, Nat.reduceEqDiff, Nat.reduceLT, Nat.reduceLeDiff, Nat.reduceAdd, hh, hL, hne1, hne2, Int.natCast_nonneg, Nat.lt_add_one, hw1, hw2] <;> rfl) ?_
      refine RunO.gskip' (by simp only [go_sem, ↓reduceIte, Nat.reduceEqDiff, Nat.reduceLT, Nat.reduceLeDiff, Nat.reduceAdd, hh, hL, hne1, hne2, Int.natCast_nonneg, Nat.lt_add_one, hw1, hw2] <;> rfl) ?_
      refine RunO.gskip' (by simp only [go_sem, ↓reduceIte, Nat.reduceEqDiff, Nat.reduceLT, Nat.reduceLeDiff, Nat.reduceAdd, hh, hL, hne1, hne2, Int.natCast_nonneg, Nat.lt_add_one, hw1, hw2] <;> rfl) ?_
      refine RunO.all (by simp only [go_sem, ↓reduceIte, Nat.reduceEqDiff, Nat.reduceLT, Nat.reduceLeDiff, Nat.reduceAdd, hh, hL, hne1, hne2, Int.natCast_nonneg, Nat.lt_add_one, hw1, hw2] <;> rfl) ?_
      refine RunO.live' [0, 1, 2, 7, 9, 10, 33] (by simp only [go_sem, ↓reduceIte, Nat.reduceEqDiff, Nat.reduceLT, Nat.reduceLeDiff, Nat.reduceAdd, hh, hL, hne1, hne2, Int.natCast_nonneg, Nat.lt_add_one, hw1, hw2] <;> rfl) ?_
      refine Run.cond (by simp only [go_sem, ↓reduceIte, Nat.reduceEqDiff, Nat.reduceLT, Nat.reduceLeDiff, Nat.reduceAdd, hh, hL, hne1, hne2, Int.natCast_nonneg, Nat.lt_add_one, hw1, hw2] <;> rfl) (fun hc1 => ?_) (fun hc1 => ?_)
      · cases hc1
      · have hc := hc1
        refine Run.skip ?_
        refine Run.seq ?_
        refine Run.seq ?_
        first
          | have hsel : Sel (at0 ys) m i (2 * i + 2) := .inr ⟨rfl, hc1, hb2⟩
          | have hsel : Sel (at0 ys) m i (2 * i + 1) := .inl ⟨rfl, fun _ => hc1⟩
          | have hsel : Sel (at0 ys) m i (2 * i + 1) := .inl ⟨rfl, fun hh2 => absurd hh2 (by have := of_decide_eq_false hg3; omega)⟩
        refine Run.region ?_
        refine RunO.ops (pre := [_, _, _]) (by simp only [go_sem, ↓reduceIte, Nat.reduceEqDiff, Nat.reduceLT, Nat.reduceLeDiff, Nat.reduceAdd, hh, hL, hne1, hne2, Int.natCast_nonneg, Nat.lt_add_one, hw1, hw2] <;> rfl) ?_
        refine RunO.invoke (by simp only [go_sem, ↓reduceIte, Nat.reduceEqDiff, Nat.reduceLT, Nat.reduceLeDiff, Nat.reduceAdd, hh, hL, hne1, hne2, Int.natCast_nonneg, Nat.lt_add_one, hw1, hw2] <;> rfl) (by simp only [go_sem, ↓reduceIte, Nat.reduceEqDiff, Nat.reduceLT, Nat.reduceLeDiff, Nat.reduceAdd, hh, hL, hne1, hne2, Int.natCast_nonneg, Nat.lt_add_one, hw1, hw2] <;> rfl) (by kernel_rfl) ((items_Less (blk_set_self _ _ _) (map_at0 (by omega)) (map_at0 (by omega)) (by omega) (by omega)).mono ?_)
        rintro r s' ⟨rfl, hs⟩
        subst s'
        refine RunO.all (by simp only [go_sem, ↓reduceIte, Nat.reduceEqDiff, Nat.reduceLT, Nat.reduceLeDiff, Nat.reduceAdd, hh, hL, hne1, hne2, Int.natCast_nonneg, Nat.lt_add_one, hw1, hw2] <;> rfl) ?_
        refine RunO.live' [0, 1, 2, 7, 9, 39] (by simp only [go_sem, ↓reduceIte, Nat.reduceEqDiff, Nat.reduceLT, Nat.reduceLeDiff, Nat.reduceAdd, hh, hL, hne1, hne2, Int.natCast_nonneg, Nat.lt_add_one, hw1, hw2] <;> rfl) ?_
        refine Run.cond (by simp only [go_sem, ↓reduceIte, Nat.reduceEqDiff, Nat.reduceLT, Nat.reduceLeDiff, Nat.reduceAdd, hh, hL, hne1, hne2, Int.natCast_nonneg, Nat.lt_add_one, hw1, hw2] <;> rfl) (fun hc2 => ?_) (fun hc2 => ?_)
        · have hc := hc2
          refine Run.exit ?_
          show Run _ _ _ _ _ _
          refine Run.seq ?_
          refine Run.region ?_
          refine RunO.all (by simp only [go_sem, ↓reduceIte, Nat.reduceEqDiff, Nat.reduceLT, Nat.reduceLeDiff, Nat.reduceAdd, hh, hL, hne1, hne2, Int.natCast_nonneg, Nat.lt_add_one, hw1, hw2] <;> rfl) ?_
          refine RunO.live' [6] (by simp only [go_sem, ↓reduceIte, Nat.reduceEqDiff, Nat.reduceLT, Nat.reduceLeDiff, Nat.reduceAdd, hh, hL, hne1, hne2, Int.natCast_nonneg, Nat.lt_add_one, hw1, hw2] <;> rfl) ?_
          refine Run.ret ?_
          first
            | exact Ret.all (by simp only [Try.f27, go_sem] <;> rfl) ⟨ys, rfl, hsw, hdn.done' hsel (by simpa using hc2)⟩
            | refine Ret.all (by simp only [Try.f27, go_sem] <;> rfl) ⟨ys, rfl, hsw, hdn.done fun c c0 cm ci => ?_⟩
              simp at hc0
              omega
        · have hc := hc2
          refine Run.skip ?_
          refine Run.seq ?_
          refine Run.region ?_
          refine RunO.ops (pre := [_, _, _]) (by simp only [go_sem, ↓reduceIte, Nat.reduceEqDiff, Nat.reduceLT, Nat.reduceLeDiff, Nat.reduceAdd, hh, hL, hne1, hne2, Int.natCast_nonneg, Nat.lt_add_one, hw1, hw2] <;> rfl) ?_
          refine RunO.invoke (by simp only [go_sem, ↓reduceIte, Nat.reduceEqDiff, Nat.reduceLT, Nat.reduceLeDiff, Nat.reduceAdd, hh, hL, hne1, hne2, Int.natCast_nonneg, Nat.lt_add_one, hw1, hw2] <;> rfl) (by simp only [go_sem, ↓reduceIte, Nat.reduceEqDiff, Nat.reduceLT, Nat.reduceLeDiff, Nat.reduceAdd, hh, hL, hne1, hne2, Int.natCast_nonneg, Nat.lt_add_one, hw1, hw2] <;> rfl) (by kernel_rfl) ((items_Swap (blk_set_self _ _ _) (map_at0 (by omega)) (map_at0 (by omega)) (by omega) (by omega)).mono ?_)
          rintro r s' hs
          subst s'
          refine RunO.live' [0, 1, 2, 9] (by simp only [go_sem, ↓reduceIte, Nat.reduceEqDiff, Nat.reduceLT, Nat.reduceLeDiff, Nat.reduceAdd, hh, hL, hne1, hne2, Int.natCast_nonneg, Nat.lt_add_one, hw1, hw2] <;> rfl) ?_
          refine Run.region ?_
          refine RunO.all (by simp only [go_sem, ↓reduceIte, Nat.reduceEqDiff, Nat.reduceLT, Nat.reduceLeDiff, Nat.reduceAdd, hh, hL, hne1, hne2, Int.natCast_nonneg, Nat.lt_add_one, hw1, hw2] <;> rfl) ?_
          refine RunO.live' [0, 1, 2, 7] (by simp only [go_sem, ↓reduceIte, Nat.reduceEqDiff, Nat.reduceLT, Nat.reduceLeDiff, Nat.reduceAdd, hh, hL, hne1, hne2, Int.natCast_nonneg, Nat.lt_add_one, hw1, hw2] <;> rfl) ?_
          refine Run.blk ?_
          first
            | refine Run.lp ⟨⟨swl ys i (2 * i + 2), 2 * i + 2, rfl, by rw [set_set, map_swl], hsw.trans (Swaps.swl (by omega) (by omega) (by omega)), ?_, by omega, by omega⟩, ?_⟩
            | refine Run.lp ⟨⟨swl ys i (2 * i + 1), 2 * i + 1, rfl, by rw [set_set, map_swl], hsw.trans (Swaps.swl (by omega) (by omega) (by omega)), ?_, by omega, by omega⟩, ?_⟩
          · rw [at0_swl (by omega) (by omega)]
            exact hdn.step' hsel hb (by simpa using hc2) hli
          · simp only [ivar, go_sem, ↓reduceIte, Nat.reduceEqDiff]
            omega

theorem heap_Push_own {h L n : Nat} {zs : List Item} {nx : PV} {x : Item} {s : St} (hh : s.blk h = some (.row 51 [.agg [.own L 0 n, nx]])) (hL : s.blk L = some (.row 37 (zs.map Item.pv))) (hne : h ≠ L) (hn : n ≤ zs.length) (hsz : n < 1000000)
    (hheap : HeapF (at0 zs) n 0) : ACalls Try.prog 20 [.iface 53 (.ptr h 0 0), .iface 37 x.pv] s (fun r s' => ∃ L' ys, s.nxt ≤ L' ∧ s'.blk h = some (.row 51 [.agg [.own L' 0 (n + 1), nx]]) ∧ s'.blk L' = some (.row 37 (ys.map Item.pv)) ∧ ys.length = n + 1 ∧ ys.Perm (zs.take n ++ [x]) ∧
      HeapF (at0 ys) (n + 1) 0 ∧ s.nxt ≤ s'.nxt ∧ ∀ i, i < s.nxt → i ≠ h → i ≠ L → s'.blk i = s.blk i) := by
  refine ACalls.body Try.func20 rfl (by simp [Try.f20]) (by decide) fun hwf => ?_
  show Run _ _ [.code _] _ _ _
  have hlt := lt_of_blk hwf hh
  have hw : IntKind.i64.wrap (((n + 1 : Nat) : Int) - 1) = (n : Int) := by rw [wrap_i64 (by omega)]; omega
  refine Run.seq ?_
  refine Run.region ?_
  refine RunO.ops (pre := [_, _]) (by simp only [go_sem, ↓reduceIte, Nat.reduceEqDiff, Nat.reduceLT, Nat.reduceLeDiff, Nat.reduceAdd] <;> rfl) ?_
  refine RunO.invoke (by simp only [go_sem, ↓reduceIte, Nat.reduceEqDiff, Nat.reduceLT, Nat.reduceLeDiff, Nat.reduceAdd] <;> rfl) (by simp only [go_sem, ↓reduceIte, Nat.reduceEqDiff, Nat.reduceLT, Nat.reduceLeDiff, Nat.reduceAdd] <;> rfl) (by kernel_rfl) ((items_Push_own hh hL hne (by simpa using hn) (by omega)).mono ?_)
  rintro r1 s1 ⟨L', hL1, hb1, hb2, hn1, hf1⟩
  refine RunO.live' [0] (by simp only [go_sem, ↓reduceIte, Nat.reduceEqDiff, Nat.reduceLT, Nat.reduceLeDiff, Nat.reduceAdd] <;> rfl) ?_
  rw [← List.map_take, show [x.pv] = [x].map Item.pv from rfl, ← List.map_append] at hb2
  have hlen : (zs.take n ++ [x]).length = n + 1 := by simp; omega
  have hne1 : h ≠ L' := by omega
  refine Run.region ?_
  refine RunO.ops (pre := [_, _]) (by simp only [go_sem, ↓reduceIte, Nat.reduceEqDiff, Nat.reduceLT, Nat.reduceLeDiff, Nat.reduceAdd, hb1, hw] <;> rfl) ?_
  refine RunO.invoke (by simp only [go_sem, ↓reduceIte, Nat.reduceEqDiff, Nat.reduceLT, Nat.reduceLeDiff, Nat.reduceAdd, hb1, hw] <;> rfl) (by simp only [go_sem, ↓reduceIte, Nat.reduceEqDiff, Nat.reduceLT, Nat.reduceLeDiff, Nat.reduceAdd, hb1, hw] <;> rfl) (by kernel_rfl) ((items_Len).mono ?_)
  rintro r3 s3 ⟨rfl, hs⟩
  subst s3
  refine RunO.ops (pre := [_]) (by simp only [go_sem, ↓reduceIte, Nat.reduceEqDiff, Nat.reduceLT, Nat.reduceLeDiff, Nat.reduceAdd, hb1, hw] <;> rfl) ?_
  refine RunO.callw (by simp only [go_sem, ↓reduceIte, Nat.reduceEqDiff, Nat.reduceLT, Nat.reduceLeDiff, Nat.reduceAdd, hb1, hw] <;> rfl) (by simp only [go_sem, ↓reduceIte, Nat.reduceEqDiff, Nat.reduceLT, Nat.reduceLeDiff, Nat.reduceAdd, hb1, hw] <;> rfl) (by simp only [go_sem, ↓reduceIte, Nat.reduceEqDiff, Nat.reduceLT, Nat.reduceLeDiff, Nat.reduceAdd, hb1, hw] <;> rfl) (by kernel_rfl) ((heap_up hb1 hb2 hne1 (by omega) (by omega) (by omega) (UpInv.push hheap hn)).mono ?_)
  rintro r2 s2 ⟨ys, hs2, hsw, hhp⟩
  refine RunO.live' [] (by simp only [go_sem, ↓reduceIte, Nat.reduceEqDiff, Nat.reduceLT, Nat.reduceLeDiff, Nat.reduceAdd, hb1, hw] <;> rfl) ?_
  refine Run.nil ?_
  have hyl := hsw.len
  refine Ret.all (by simp only [Try.f20, go_sem] <;> rfl) ⟨L', ys, hL1, ?_, ?_, by omega, ?_, hhp, ?_, fun i hi h1 h2 => ?_⟩
  · rw [hs2, blk_set, if_neg hne1]; exact hb1
  · rw [hs2]; exact blk_set_self _ _ _
  · have := hsw.perm
    rwa [List.take_of_length_le (by omega), List.take_of_length_le (by omega)] at this
  · rw [hs2]; exact hn1
  · rw [hs2, blk_set, if_neg (by omega)]; exact hf1 i hi h1 h2

theorem heap_Push_first {h : Nat} {nx : PV} {x : Item} {s : St} (hh : s.blk h = some (.row 51 [.agg [.sl .nil [], nx]])) :
    ACalls Try.prog 20 [.iface 53 (.ptr h 0 0), .iface 37 x.pv] s (fun r s' => ∃ L' ys, s.nxt ≤ L' ∧ s'.blk h = some (.row 51 [.agg [.own L' 0 1, nx]]) ∧ s'.blk L' = some (.row 37 (ys.map Item.pv)) ∧ ys = [x] ∧ s.nxt ≤ s'.nxt ∧ ∀ i, i < s.nxt → i ≠ h → s'.blk i = s.blk i) := by
  refine ACalls.body Try.func20 rfl (by simp [Try.f20]) (by decide) fun hwf => ?_
  show Run _ _ [.code _] _ _ _
  have hlt := lt_of_blk hwf hh
  have hw : IntKind.i64.wrap (((1 : Nat) : Int) - 1) = ((0 : Nat) : Int) := by decide
  refine Run.seq ?_
  refine Run.region ?_
  refine RunO.ops (pre := [_, _]) (by simp only [go_sem, ↓reduceIte, Nat.reduceEqDiff, Nat.reduceLT, Nat.reduceLeDiff, Nat.reduceAdd] <;> rfl) ?_
  refine RunO.invoke (by simp only [go_sem, ↓reduceIte, Nat.reduceEqDiff, Nat.reduceLT, Nat.reduceLeDiff, Nat.reduceAdd] <;> rfl) (by simp only [go_sem, ↓reduceIte, Nat.reduceEqDiff, Nat.reduceLT, Nat.reduceLeDiff, Nat.reduceAdd] <;> rfl) (by kernel_rfl) ((items_Push_first hh).mono ?_)
  rintro r1 s1 ⟨L', hL1, hb1, hb2, hn1, hf1⟩
  refine RunO.live' [0] (by simp only [go_sem, ↓reduceIte, Nat.reduceEqDiff, Nat.reduceLT, Nat.reduceLeDiff, Nat.reduceAdd] <;> rfl) ?_
  have hne1 : h ≠ L' := by omega
  refine Run.region ?_
  refine RunO.ops (pre := [_, _]) (by simp only [go_sem, ↓reduceIte, Nat.reduceEqDiff, Nat.reduceLT, Nat.reduceLeDiff, Nat.reduceAdd, hb1, hw] <;> rfl) ?_
  refine RunO.invoke (by simp only [go_sem, ↓reduceIte, Nat.reduceEqDiff, Nat.reduceLT, Nat.reduceLeDiff, Nat.reduceAdd, hb1, hw] <;> rfl) (by simp only [go_sem, ↓reduceIte, Nat.reduceEqDiff, Nat.reduceLT, Nat.reduceLeDiff, Nat.reduceAdd, hb1, hw] <;> rfl) (by kernel_rfl) ((items_Len).mono ?_)
  rintro r3 s3 ⟨rfl, hs⟩
  subst s3
  refine RunO.ops (pre := [_]) (by simp only [go_sem, ↓reduceIte, Nat.reduceEqDiff, Nat.reduceLT, Nat.reduceLeDiff, Nat.reduceAdd, hb1, hw] <;> rfl) ?_
  refine RunO.callw (by simp only [go_sem, ↓reduceIte, Nat.reduceEqDiff, Nat.reduceLT, Nat.reduceLeDiff, Nat.reduceAdd, hb1, hw] <;> rfl) (by simp only [go_sem, ↓reduceIte, Nat.reduceEqDiff, Nat.reduceLT, Nat.reduceLeDiff, Nat.reduceAdd, hb1, hw] <;> rfl) (by simp only [go_sem, ↓reduceIte, Nat.reduceEqDiff, Nat.reduceLT, Nat.reduceLeDiff, Nat.reduceAdd, hb1, hw] <;> rfl) (by kernel_rfl) ((heap_up (zs := [x]) (j := 0) hb1 hb2 hne1 (by simp) (by omega) (by omega) (UpInv.push (zs := []) (n := 0) (fun k k0 kn => by omega) (by simp))).mono ?_)
  rintro r2 s2 ⟨ys, hs2, hsw, hhp⟩
  refine RunO.live' [] (by simp only [go_sem, ↓reduceIte, Nat.reduceEqDiff, Nat.reduceLT, Nat.reduceLeDiff, Nat.reduceAdd, hb1, hw] <;> rfl) ?_
  refine Run.nil ?_
  have hyl := hsw.len
  refine Ret.all (by simp only [Try.f20, go_sem] <;> rfl) ⟨L', ys, hL1, ?_, ?_, ?_, ?_, fun i hi h1 => ?_⟩
  · rw [hs2, blk_set, if_neg hne1]; exact hb1
  · rw [hs2]; exact blk_set_self _ _ _
  · have := hsw.perm
    rw [List.take_of_length_le (by simp at hyl; omega), List.take_of_length_le (by simp)] at this
    exact List.perm_singleton.1 this
  · rw [hs2]; exact hn1
  · rw [hs2, blk_set, if_neg (by omega)]; exact hf1 i hi h1

theorem heap_Pop {h L n : Nat} {zs : List Item} {nx : PV} {s : St} (hh : s.blk h = some (.row 51 [.agg [.own L 0 (n + 1), nx]])) (hL : s.blk L = some (.row 37 (zs.map Item.pv))) (hne : h ≠ L) (hn : n + 1 ≤ zs.length) (hsz : n < 1000000)
    (hheap : HeapF (at0 zs) (n + 1) 0) : ACalls Try.prog 21 [.iface 53 (.ptr h 0 0)] s (fun r s' => r = .iface 37 (at0 zs 0).pv ∧ ∃ ys, s'.blk h = some (.row 51 [.agg [.own L 0 n, nx]]) ∧ s'.blk L = some (.row 37 (ys.map Item.pv)) ∧ ys.length = zs.length ∧ (ys.take n ++ [at0 zs 0]).Perm (zs.take (n + 1)) ∧
      HeapF (at0 ys) n 0 ∧ s.nxt ≤ s'.nxt ∧ ∀ i, i < s.nxt → i ≠ h → i ≠ L → s'.blk i = s.blk i) := by
  refine ACalls.body Try.func21 rfl (by simp [Try.f21]) (by decide) fun hwf => ?_
  show Run _ _ [.code _] _ _ _
  have hlt := lt_of_blk hwf hh
  have hLt := lt_of_blk hwf hL
  have hh0 : (h = s.nxt) = False := eq_false (by omega)
  have hl0 : (L = s.nxt) = False := eq_false (by omega)
  have hh1 : ∀ k, (h = s.nxt + k) = False := fun k => eq_false (by omega)
  have hl1 : ∀ k, (L = s.nxt + k) = False := fun k => eq_false (by omega)
  have hne1 : (h = L) = False := eq_false hne
  have hne2 : (L = h) = False := eq_false (Ne.symm hne)
  have hk0 : (s.nxt = h) = False := eq_false (by omega)
  have hk1 : (s.nxt + 1 = h) = False := eq_false (by omega)
  have hk2 : (s.nxt = L) = False := eq_false (by omega)
  have hk3 : (s.nxt + 1 = L) = False := eq_false (by omega)
  have hw : IntKind.i64.wrap (((n + 1 : Nat) : Int) - 1) = (n : Int) := by rw [wrap_i64 (by omega)]; omega
  refine Run.seq ?_
  refine Run.region ?_
  refine RunO.all (by simp only [go_sem, ↓reduceIte, Nat.reduceEqDiff, Nat.reduceLT, Nat.reduceLeDiff, Nat.reduceAdd, hh, hL, hne1, hne2] <;> rfl) ?_
  refine RunO.live' [0] (by simp only [go_sem, ↓reduceIte, Nat.reduceEqDiff, Nat.reduceLT, Nat.reduceLeDiff, Nat.reduceAdd, hh, hL, hne1, hne2] <;> rfl) ?_
  refine Run.seq ?_
  refine Run.region ?_
  refine RunO.ops (pre := [_]) (by simp only [go_sem, ↓reduceIte, Nat.reduceEqDiff, Nat.reduceLT, Nat.reduceLeDiff, Nat.reduceAdd, hh, hL, hne1, hne2] <;> rfl) ?_
  refine RunO.invoke (by simp only [go_sem, ↓reduceIte, Nat.reduceEqDiff, Nat.reduceLT, Nat.reduceLeDiff, Nat.reduceAdd, hh, hL, hne1, hne2] <;> rfl) (by simp only [go_sem, ↓reduceIte, Nat.reduceEqDiff, Nat.reduceLT, Nat.reduceLeDiff, Nat.reduceAdd, hh, hL, hne1, hne2] <;> rfl) (by kernel_rfl) ((items_Len).mono ?_)
  rintro r3 s3 ⟨rfl, hs⟩
  subst s3
  refine RunO.all (by simp only [go_sem, ↓reduceIte, Nat.reduceEqDiff, Nat.reduceLT, Nat.reduceLeDiff, Nat.reduceAdd, hh, hL, hne1, hne2] <;> rfl) ?_
  refine RunO.live' [0, 3] (by simp only [go_sem, ↓reduceIte, Nat.reduceEqDiff, Nat.reduceLT, Nat.reduceLeDiff, Nat.reduceAdd, hh, hL, hne1, hne2] <;> rfl) ?_
  refine Run.seq ?_
  refine Run.region ?_
  refine RunO.ops (pre := [_, _]) (by simp only [go_sem, ↓reduceIte, Nat.reduceEqDiff, Nat.reduceLT, Nat.reduceLeDiff, Nat.reduceAdd, hh, hL, hne1, hne2, hw] <;> rfl) ?_
  refine RunO.invoke (by simp only [go_sem, ↓reduceIte, Nat.reduceEqDiff, Nat.reduceLT, Nat.reduceLeDiff, Nat.reduceAdd, hh, hL, hne1, hne2, hw] <;> rfl) (by simp only [go_sem, ↓reduceIte, Nat.reduceEqDiff, Nat.reduceLT, Nat.reduceLeDiff, Nat.reduceAdd, hh, hL, hne1, hne2, hw] <;> rfl) (by kernel_rfl) ((items_Swap (i := 0) (j := n) hL (map_at0 (by omega)) (map_at0 (by omega)) (by omega) (by omega)).mono ?_)
  rintro r1 s1 hs1
  rw [← map_swl] at hs1
  subst s1
  refine RunO.live' [0, 3] (by simp only [go_sem, ↓reduceIte, Nat.reduceEqDiff, Nat.reduceLT, Nat.reduceLeDiff, Nat.reduceAdd, hh, hL, hne1, hne2, hw] <;> rfl) ?_
  refine Run.seq ?_
  refine Run.region ?_
  refine RunO.ops (pre := [_, _]) (by simp only [go_sem, ↓reduceIte, Nat.reduceEqDiff, Nat.reduceLT, Nat.reduceLeDiff, Nat.reduceAdd, hh, hL, hne1, hne2, hw] <;> rfl) ?_
  refine RunO.callw (by simp only [go_sem, ↓reduceIte, Nat.reduceEqDiff, Nat.reduceLT, Nat.reduceLeDiff, Nat.reduceAdd, hh, hL, hne1, hne2, hw] <;> rfl) (by simp only [go_sem, ↓reduceIte, Nat.reduceEqDiff, Nat.reduceLT, Nat.reduceLeDiff, Nat.reduceAdd, hh, hL, hne1, hne2, hw] <;> rfl) (by simp only [go_sem, ↓reduceIte, Nat.reduceEqDiff, Nat.reduceLT, Nat.reduceLeDiff, Nat.reduceAdd, hh, hL, hne1, hne2, hw] <;> rfl) (by kernel_rfl) ((heap_down (lo := 0) (by rw [blk_set, if_neg hne]; exact hh) (blk_set_self _ _ _) hne (by simp [swl]; omega) (by omega) (by omega) (by omega) (DownInv.pop hheap hn)).mono ?_)
  rintro r2 s2 ⟨ys, hs2, hsw, hhp⟩
  rw [set_set] at hs2
  subst s2
  have hyl : ys.length = zs.length := by rw [hsw.len]; simp [swl]
  refine RunO.live' [0] (by simp only [go_sem, ↓reduceIte, Nat.reduceEqDiff, Nat.reduceLT, Nat.reduceLeDiff, Nat.reduceAdd, hh, hL, hne1, hne2, hw] <;> rfl) ?_
  refine Run.seq ?_
  have hx0 : at0 ys n = at0 zs 0 := by
    rw [at0_rest hsw (Nat.le_refl n), at0_swl (by omega) (by omega)]
    simp [swf]
  refine Run.region ?_
  refine RunO.ops (pre := [_]) (by simp only [go_sem, ↓reduceIte, Nat.reduceEqDiff, Nat.reduceLT, Nat.reduceLeDiff, Nat.reduceAdd, hh, hL, hne1, hne2, hw] <;> rfl) ?_
  refine RunO.invoke (by simp only [go_sem, ↓reduceIte, Nat.reduceEqDiff, Nat.reduceLT, Nat.reduceLeDiff, Nat.reduceAdd, hh, hL, hne1, hne2, hw] <;> rfl) (by simp only [go_sem, ↓reduceIte, Nat.reduceEqDiff, Nat.reduceLT, Nat.reduceLeDiff, Nat.reduceAdd, hh, hL, hne1, hne2, hw] <;> rfl) (by kernel_rfl) ((items_Pop (x := at0 zs 0) (by rw [blk_set, if_neg hne]; exact hh) (blk_set_self _ _ _) hne (by rw [map_at0 (by omega), hx0]) (by omega)).mono ?_)
  rintro r4 s4 ⟨rfl, hb1, hn4, hf4⟩
  refine RunO.all (by simp only [go_sem, ↓reduceIte, Nat.reduceEqDiff, Nat.reduceLT, Nat.reduceLeDiff, Nat.reduceAdd, hh, hL, hne1, hne2, hw] <;> rfl) ?_
  refine RunO.live' [2] (by simp only [go_sem, ↓reduceIte, Nat.reduceEqDiff, Nat.reduceLT, Nat.reduceLeDiff, Nat.reduceAdd, hh, hL, hne1, hne2, hw] <;> rfl) ?_
  refine Run.ret ?_
  refine Ret.all (by simp only [Try.f21, go_sem] <;> rfl) ⟨rfl, ys, hb1, ?_, hyl, pop_perm hn hsw, hhp, hn4, fun i hi h1 h2 => ?_⟩
  · rw [hf4 L hLt (Ne.symm hne)]; exact blk_set_self _ _ _
  · rw [hf4 i hi h1, blk_set, if_neg h2]

theorem items_Len_nil {s : St} : ACalls Try.prog 45 [.sl .unk []] s (fun r s' => r = .int .i64 0 ∧ s' = s) := by
  refine ACalls.body Try.func45 rfl (by simp [Try.f45]) (by decide) fun hwf => ?_
  show Run _ _ [.code _] _ _ _
  refine Run.seq ?_
  refine Run.region ?_
  refine RunO.all (by simp only [go_sem, ↓reduceIte, Nat.reduceEqDiff, Nat.reduceLT, Nat.reduceLeDiff, Nat.reduceAdd] <;> rfl) ?_
  refine RunO.live' [0] (by simp only [go_sem, ↓reduceIte, Nat.reduceEqDiff, Nat.reduceLT, Nat.reduceLeDiff, Nat.reduceAdd] <;> rfl) ?_
  refine Run.seq ?_
  refine Run.region ?_
  refine RunO.all (by simp only [go_sem, ↓reduceIte, Nat.reduceEqDiff, Nat.reduceLT, Nat.reduceLeDiff, Nat.reduceAdd] <;> rfl) ?_
  refine RunO.live' [2] (by simp only [go_sem, ↓reduceIte, Nat.reduceEqDiff, Nat.reduceLT, Nat.reduceLeDiff, Nat.reduceAdd] <;> rfl) ?_
  refine Run.ret ?_
  refine Ret.pure (by simp only [Try.f45, go_sem]; rfl) rfl (by simp only [go_sem]) hwf (fun i hi => ?_) ⟨?_, rfl⟩
  · have h0 : ∀ n, (i = s.nxt + n) = False := fun n => eq_false (by omega)
    have h1 : (i = s.nxt) = False := eq_false (by omega)
    try simp only [go_sem, h0, h1]
  · simp [PV.weak, go_sem]

theorem heap_Init {h L n : Nat} {zs : List Item} {nx : PV} {s : St} (hh : s.blk h = some (.row 51 [.agg [.own L 0 n, nx]])) (hL : s.blk L = some (.row 37 (zs.map Item.pv))) (hne : h ≠ L) (hn : n ≤ zs.length) (hsz : n ≤ 1000000) :
    ACalls Try.prog 25 [.iface 53 (.ptr h 0 0)] s (fun r s' => ∃ ys, s' = s.set L (some (.row 37 (ys.map Item.pv))) ∧ Swaps zs ys n ∧ HeapF (at0 ys) n 0) := by
  refine ACalls.body Try.func25 rfl (by simp [Try.f25]) (by decide) fun hwf => ?_
  show Run _ _ [.code _] _ _ _
  have hlt := lt_of_blk hwf hh
  have hLt := lt_of_blk hwf hL
  have hh0 : (h = s.nxt) = False := eq_false (by omega)
  have hl0 : (L = s.nxt) = False := eq_false (by omega)
  have hh1 : ∀ k, (h = s.nxt + k) = False := fun k => eq_false (by omega)
  have hl1 : ∀ k, (L = s.nxt + k) = False := fun k => eq_false (by omega)
  have hne1 : (h = L) = False := eq_false hne
  have hne2 : (L = h) = False := eq_false (Ne.symm hne)
  have hk0 : (s.nxt = h) = False := eq_false (by omega)
  have hk1 : (s.nxt + 1 = h) = False := eq_false (by omega)
  have hk2 : (s.nxt = L) = False := eq_false (by omega)
  have hk3 : (s.nxt + 1 = L) = False := eq_false (by omega)
  have hw1 : IntKind.i64.wrap (IntKind.i64.wrap ((n : Int).tdiv 2) - 1) = (((n / 2 : Nat) : Int) - 1) := by
    rw [Int.tdiv_eq_ediv_of_nonneg (by omega), wrap_i64 (n := (n : Int) / 2) (by omega), wrap_i64 (by omega)]; omega
  refine Run.seq ?_
  refine Run.region ?_
  refine RunO.ops (pre := [_]) (by simp only [go_sem, ↓reduceIte, Nat.reduceEqDiff, Nat.reduceLT, Nat.reduceLeDiff, Nat.reduceAdd, hh, hL, hne1, hne2] <;> rfl) ?_
  refine RunO.invoke (by simp only [go_sem, ↓reduceIte, Nat.reduceEqDiff, Nat.reduceLT, Nat.reduceLeDiff, Nat.reduceAdd, hh, hL, hne1, hne2] <;> rfl) (by simp only [go_sem, ↓reduceIte, Nat.reduceEqDiff, Nat.reduceLT, Nat.reduceLeDiff, Nat.reduceAdd, hh, hL, hne1, hne2] <;> rfl) (by kernel_rfl) ((items_Len).mono ?_)
  rintro r3 s3 ⟨rfl, hs⟩
  subst s3
  refine RunO.all (by simp only [go_sem, ↓reduceIte, Nat.reduceEqDiff, Nat.reduceLT, Nat.reduceLeDiff, Nat.reduceAdd, hh, hL, hne1, hne2] <;> rfl) ?_
  refine RunO.live' [0, 2] (by simp only [go_sem, ↓reduceIte, Nat.reduceEqDiff, Nat.reduceLT, Nat.reduceLeDiff, Nat.reduceAdd, hh, hL, hne1, hne2] <;> rfl) ?_
  refine Run.seq ?_
  refine Run.region ?_
  refine RunO.all (by simp only [go_sem, ↓reduceIte, Nat.reduceEqDiff, Nat.reduceLT, Nat.reduceLeDiff, Nat.reduceAdd, hh, hL, hne1, hne2, hw1] <;> rfl) ?_
  refine RunO.live' [0, 2, 3] (by simp only [go_sem, ↓reduceIte, Nat.reduceEqDiff, Nat.reduceLT, Nat.reduceLeDiff, Nat.reduceAdd, hh, hL, hne1, hne2, hw1] <;> rfl) ?_
  refine Run.block ?_
  -- loop 0, live [0, 2, 3]
  refine Run.loop (fun e s' => ∃ (ys : List Item) (k1 : Nat), e = [(0, .iface 53 (.ptr h 0 0)), (2, .int .i64 n), (3, .int .i64 ((k1 : Int) - 1))] ∧ s' = s.set L (some (.row 37 (ys.map Item.pv))) ∧ Swaps zs ys n ∧ HeapF (at0 ys) n k1 ∧ k1 ≤ n) (fun e s' => ivar1 e 3) ?_ ?_
  · exact ⟨zs, n / 2, rfl, (set_self hL).symm, Swaps.refl _ _, HeapF.half _ _, by omega⟩
  rintro e s' ⟨ys, k1, rfl, hs, hsw, hhp, hk⟩
  subst s'
  have hyl := hsw.len
  refine Run.seq ?_
  refine Run.seq ?_
  refine Run.region ?_
  refine RunO.all (by simp only [go_sem, ↓reduceIte, Nat.reduceEqDiff, Nat.reduceLT, Nat.reduceLeDiff, Nat.reduceAdd, hh, hL, hne1, hne2, hw1] <;> rfl) ?_
  refine RunO.live' [0, 2, 3, 10] (by simp only [go_sem, ↓reduceIte, Nat.reduceEqDiff, Nat.reduceLT, Nat.reduceLeDiff, Nat.reduceAdd, hh, hL, hne1, hne2, hw1] <;> rfl) ?_
  refine Run.cond (by simp only [go_sem, ↓reduceIte, Nat.reduceEqDiff, Nat.reduceLT, Nat.reduceLeDiff, Nat.reduceAdd, hh, hL, hne1, hne2, hw1] <;> rfl) (fun hc0 => ?_) (fun hc0 => ?_)
  · have hc := hc0
    refine Run.skip ?_
    refine Run.seq ?_
    refine Run.block ?_
    have hi0 := of_decide_eq_true hc0
    obtain ⟨k, rfl⟩ : ∃ k, k1 = k + 1 := ⟨k1 - 1, by omega⟩
    have hke : ((k + 1 : Nat) : Int) - 1 = (k : Int) := by omega
    have hw3 : IntKind.i64.wrap ((k : Int) - 1) = (k : Int) - 1 := wrap_i64 (by omega)
    refine Run.region ?_
    refine RunO.ops (pre := [_, _, _]) (by simp only [go_sem, ↓reduceIte, Nat.reduceEqDiff, Nat.reduceLT, Nat.reduceLeDiff, Nat.reduceAdd, hh, hL, hne1, hne2, hw1, hke, hw3] <;> rfl) ?_
    refine RunO.callw (by simp only [go_sem, ↓reduceIte, Nat.reduceEqDiff, Nat.reduceLT, Nat.reduceLeDiff, Nat.reduceAdd, hh, hL, hne1, hne2, hw1, hke, hw3] <;> rfl) (by simp only [go_sem, ↓reduceIte, Nat.reduceEqDiff, Nat.reduceLT, Nat.reduceLeDiff, Nat.reduceAdd, hh, hL, hne1, hne2, hw1, hke, hw3] <;> rfl) (by simp only [go_sem, ↓reduceIte, Nat.reduceEqDiff, Nat.reduceLT, Nat.reduceLeDiff, Nat.reduceAdd, hh, hL, hne1, hne2, hw1, hke, hw3] <;> rfl) (by kernel_rfl) ((heap_down (lo := k) (by rw [blk_set, if_neg hne]; exact hh) (blk_set_self _ _ _) hne (by omega) (by omega) (by omega) (by omega) (HeapF.downInv hhp)).mono ?_)
    rintro r2 s2 ⟨zs2, hs2, hsw2, hhp2⟩
    rw [set_set] at hs2
    subst s2
    refine RunO.live' [0, 2, 3] (by simp only [go_sem, ↓reduceIte, Nat.reduceEqDiff, Nat.reduceLT, Nat.reduceLeDiff, Nat.reduceAdd, hh, hL, hne1, hne2, hw1, hke, hw3] <;> rfl) ?_
    refine Run.blk ?_
    refine Run.region ?_
    refine RunO.all (by simp only [go_sem, ↓reduceIte, Nat.reduceEqDiff, Nat.reduceLT, Nat.reduceLeDiff, Nat.reduceAdd, hh, hL, hne1, hne2, hw1, hke, hw3] <;> rfl) ?_
    refine RunO.live' [0, 2, 3] (by simp only [go_sem, ↓reduceIte, Nat.reduceEqDiff, Nat.reduceLT, Nat.reduceLeDiff, Nat.reduceAdd, hh, hL, hne1, hne2, hw1, hke, hw3] <;> rfl) ?_
    refine Run.lp ⟨⟨zs2, k, rfl, rfl, hsw.trans hsw2, hhp2, by omega⟩, ?_⟩
    simp only [ivar1, go_sem, ↓reduceIte, Nat.reduceEqDiff]
    omega
  · have hc := hc0
    refine Run.exit ?_
    show Run _ _ _ _ _ _
    refine Run.nil ?_
    obtain rfl : k1 = 0 := by have := of_decide_eq_false hc0; omega
    exact Ret.all (by simp only [Try.f25, go_sem] <;> rfl) ⟨ys, rfl, hsw, hhp⟩

theorem heap_Init_nil {h : Nat} {nx : PV} {s : St} (hh : s.blk h = some (.row 51 [.agg [.sl .nil [], nx]])) : ACalls Try.prog 25 [.iface 53 (.ptr h 0 0)] s (fun r s' => s' = s) := by
  refine ACalls.body Try.func25 rfl (by simp [Try.f25]) (by decide) fun hwf => ?_
  show Run _ _ [.code _] _ _ _
  have hw1 : IntKind.i64.wrap (IntKind.i64.wrap ((0 : Int).tdiv 2) - 1) = -1 := by decide
  refine Run.seq ?_
  refine Run.region ?_
  refine RunO.ops (pre := [_]) (by simp only [go_sem, ↓reduceIte, Nat.reduceEqDiff, Nat.reduceLT, Nat.reduceLeDiff, Nat.reduceAdd, hh] <;> rfl) ?_
  refine RunO.invokew (by simp only [go_sem, ↓reduceIte, Nat.reduceEqDiff, Nat.reduceLT, Nat.reduceLeDiff, Nat.reduceAdd, hh] <;> rfl) (by simp only [go_sem, ↓reduceIte, Nat.reduceEqDiff, Nat.reduceLT, Nat.reduceLeDiff, Nat.reduceAdd, hh] <;> rfl) (by simp only [go_sem, ↓reduceIte, Nat.reduceEqDiff, Nat.reduceLT, Nat.reduceLeDiff, Nat.reduceAdd, hh] <;> rfl) (by kernel_rfl) ((items_Len_nil).mono ?_)
  rintro r3 s3 ⟨rfl, hs⟩
  subst s3
  refine RunO.all (by simp only [go_sem, ↓reduceIte, Nat.reduceEqDiff, Nat.reduceLT, Nat.reduceLeDiff, Nat.reduceAdd, hh] <;> rfl) ?_
  refine RunO.live' [0, 2] (by simp only [go_sem, ↓reduceIte, Nat.reduceEqDiff, Nat.reduceLT, Nat.reduceLeDiff, Nat.reduceAdd, hh] <;> rfl) ?_
  refine Run.seq ?_
  refine Run.region ?_
  refine RunO.all (by simp only [go_sem, ↓reduceIte, Nat.reduceEqDiff, Nat.reduceLT, Nat.reduceLeDiff, Nat.reduceAdd, hh, hw1] <;> rfl) ?_
  refine RunO.live' [0, 2, 3] (by simp only [go_sem, ↓reduceIte, Nat.reduceEqDiff, Nat.reduceLT, Nat.reduceLeDiff, Nat.reduceAdd, hh, hw1] <;> rfl) ?_
  refine Run.block ?_
  -- loop 0, live [0, 2, 3]
  refine Run.loop (fun e s' => e = [(0, .iface 53 (.ptr h 0 0)), (2, .int .i64 0), (3, .int .i64 (-1))] ∧ s' = s) (fun e s' => 0) ?_ ?_
  · exact ⟨rfl, rfl⟩
  rintro e s' ⟨rfl, hs⟩
  subst s'
  refine Run.seq ?_
  refine Run.seq ?_
  refine Run.region ?_
  refine RunO.all (by simp only [go_sem, ↓reduceIte, Nat.reduceEqDiff, Nat.reduceLT, Nat.reduceLeDiff, Nat.reduceAdd, hh, hw1] <;> rfl) ?_
  refine RunO.live' [0, 2, 3, 10] (by simp only [go_sem, ↓reduceIte, Nat.reduceEqDiff, Nat.reduceLT, Nat.reduceLeDiff, Nat.reduceAdd, hh, hw1] <;> rfl) ?_
  refine Run.cond (by simp only [go_sem, ↓reduceIte, Nat.reduceEqDiff, Nat.reduceLT, Nat.reduceLeDiff, Nat.reduceAdd, hh, hw1] <;> rfl) (fun hc0 => ?_) (fun hc0 => ?_)
  · cases hc0
  · have hc := hc0
    refine Run.exit ?_
    show Run _ _ _ _ _ _
    refine Run.nil ?_
    exact Ret.all (by simp only [Try.f25, go_sem] <;> rfl) rfl

end Go.Proofs
