import Derived.Test.YtegdcamfhldcoaaH9
import Derived.Test.YtegdcamfhldcoaaPmZa
namespace Go.Proofs
open Go.PM
set_option maxHeartbeats 2000000
set_option linter.unusedSimpArgs false
set_option linter.unusedVariables false

theorem at0_set_self {l : List Item} {k : Nat} {x : Item} (h : k < l.length) : at0 (l.set k x) k = x := by
  unfold at0
  rw [List.getElem?_set_self h]
  rfl

theorem at0_ins {out : List Item} {x : Item} {k : Nat} (hk : k ≤ out.length) (j : Nat) : at0 (out.take k ++ x :: out.drop k) j = if j < k then at0 out j else if j = k then x else at0 out (j - 1) := by
  unfold at0
  rw [List.getElem?_append]
  simp only [List.length_take, Nat.min_eq_left hk]
  split
  · rw [List.getElem?_take, if_pos (by assumption)]
  · rename_i h
    by_cases h2 : j = k
    · subst h2; simp
    · rw [if_neg h2, show j - k = (j - 1 - k) + 1 by omega, List.getElem?_cons_succ, List.getElem?_drop]
      congr 2
      omega

theorem ins_eq {zs out : List Item} {x : Item} {k : Nat} (hl : zs.length = out.length + 1) (hk : k ≤ out.length) (h1 : ∀ j, j < k → at0 zs j = at0 out j) (h2 : ∀ j, k ≤ j → j < out.length → at0 zs (j + 1) = at0 out j) :
    zs.set k x = out.take k ++ x :: out.drop k := by
  refine items_ext (by simp; omega) fun j hj => ?_
  rw [at0_ins hk]
  simp only [List.length_set] at hj
  by_cases e : j = k
  · subst e
    rw [at0_set_self (by omega)]
    simp
  · rw [at0_set_ne (Ne.symm e)]
    split
    · exact h1 j (by assumption)
    · have := h2 (j - 1) (by omega) (by omega)
      rwa [show j - 1 + 1 = j by omega] at this

theorem lt_asymm' {a b : Item} (h : a.lt b = true) : b.lt a = false := by
  simp only [Item.lt, Bool.or_eq_false_iff, Bool.and_eq_false_iff, Bool.or_eq_true, Bool.and_eq_true, decide_eq_false_iff_not, decide_eq_true_eq] at *
  omega
theorem nlt_trans' {a b c : Item} (h : a.lt b = false) (k : b.lt c = false) : a.lt c = false := by
  simp only [Item.lt, Bool.or_eq_false_iff, Bool.and_eq_false_iff, decide_eq_false_iff_not] at *
  omega

theorem ins_sorted {out : List Item} {x : Item} {k : Nat} (hs : out.Pairwise (fun a b => b.lt a = false)) (hk : k ≤ out.length) (h1 : ∀ j, k ≤ j → j < out.length → x.lt (at0 out j) = true) (h2 : k = 0 ∨ x.lt (at0 out (k - 1)) = false) :
    (out.take k ++ x :: out.drop k).Pairwise (fun a b => b.lt a = false) := by
  have hb : ∀ b ∈ out.drop k, x.lt b = true := fun b hb => by
    obtain ⟨j, hj, rfl⟩ := List.mem_iff_getElem.1 hb
    simp only [List.length_drop] at hj
    have := h1 (k + j) (by omega) (by omega)
    unfold at0 at this
    rw [List.getElem?_eq_getElem (by omega)] at this
    rw [List.getElem_drop]
    exact this
  have ha : ∀ a ∈ out.take k, x.lt a = false := fun a ha => by
    obtain ⟨j, hj, rfl⟩ := mem_take_at0 ha
    rcases h2 with h2 | h2
    · omega
    · by_cases e : j = k - 1
      · rw [e]; exact h2
      · exact nlt_trans' h2 (at0_sorted hs (by omega) (by omega))
  have hd := List.pairwise_append.1 (by rw [List.take_append_drop]; exact hs : (out.take k ++ out.drop k).Pairwise (fun a b => b.lt a = false))
  refine List.pairwise_append.2 ⟨hd.1, List.pairwise_cons.2 ⟨fun b h => lt_asymm' (hb b h), hd.2.1⟩, fun a h b h' => ?_⟩
  rcases List.mem_cons.1 h' with rfl | h'
  · exact ha a h
  · exact hd.2.2 a h b h'

theorem at0_app {l : List Item} {x : Item} {j : Nat} (h : j < l.length) : at0 (l ++ [x]) j = at0 l j := by
  unfold at0
  rw [List.getElem?_append_left h]
theorem set_set' (s : St) (i : Nat) (a b : Option Blk) : (s.set i a).set i b = s.set i b := by
  simp only [St.set, St.mk.injEq, true_and]
  funext j
  split <;> rfl
theorem frz_item (wk : Bool) (s : St) (q : Nat → Bool) (n : Nat) (x : Item) : x.pv.frz wk s q n = x.pv := by
  cases n with
  | zero => rfl
  | succ n => cases n <;> rfl
theorem frz_items (wk : Bool) (s : St) (q : Nat → Bool) (n : Nat) (l : List Item) : (l.map Item.pv).map (PV.frz wk s q n) = l.map Item.pv := by
  rw [List.map_map]
  exact List.map_congr_left fun x _ => frz_item wk s q n x
theorem ins_perm (out : List Item) (x : Item) (k : Nat) : (out.take k ++ x :: out.drop k).Perm (out ++ [x]) := by
  refine List.perm_middle.trans ?_
  rw [List.take_append_drop]
  exact (List.perm_append_singleton _ _).symm

theorem filter_snoc {l : List Item} {q : Nat} (h : q < l.length) (f : Item → Bool) : (l.take (q + 1)).filter f = (l.take q).filter f ++ if f (at0 l q) = true then [at0 l q] else [] := by
  rw [take_succ_at0 h, List.filter_append]
  congr 1
  by_cases e : f (at0 l q) = true
  · rw [if_pos e, List.filter_cons, if_pos e]; rfl
  · rw [if_neg e, List.filter_cons, if_neg e]; rfl

theorem due_ {l : List Item} {now : Int} (hsz : l.length < 1000000) {s : St} : ACalls Try.prog 18 [.sl .unk (l.map Item.pv), .int .i64 now] s (fun r s' => ∃ (out : List Item) (kk : SK), r = .tuple [.sl .unk (out.map Item.pv), .sl kk ((l.filter (fun a => decide (now < a.tick))).map Item.pv)] ∧ out.Perm (l.filter (fun a => decide (a.tick ≤ now))) ∧ out.Pairwise (fun a b => b.lt a = false) ∧ Grows s' kk (l.filter (fun a => decide (now < a.tick))).length 3 ∧ (∀ t z, kk = .tok t z → s.nxt ≤ t ∧ t < s'.nxt) ∧ s.nxt ≤ s'.nxt ∧ ∀ i, i < s.nxt → s'.blk i = s.blk i) := by
  refine ACalls.body Try.func18 rfl (by simp [Try.f18]) (by decide) fun hwf => ?_
  show Run _ _ [.code _] _ _ _
  refine Run.seq ?_
  refine Run.region ?_
  refine RunO.all (by simp only [go_sem, ↓reduceIte, Nat.reduceEqDiff, Nat.reduceLT, Nat.reduceLeDiff, Nat.reduceAdd, Int.natCast_nonneg, Int.ofNat_lt, List.length_map, decide_true, decide_false, ne_eq, not_true_eq_false, not_false_eq_true, Int.lt_irrefl, Int.le_refl, Nat.lt_add_one, Nat.le_refl] <;> rfl) ?_
  refine RunO.live' [0, 1] (by simp only [go_sem, ↓reduceIte, Nat.reduceEqDiff, Nat.reduceLT, Nat.reduceLeDiff, Nat.reduceAdd, Int.natCast_nonneg, Int.ofNat_lt, List.length_map, decide_true, decide_false, ne_eq, not_true_eq_false, not_false_eq_true, Int.lt_irrefl, Int.le_refl, Nat.lt_add_one, Nat.le_refl] <;> rfl) ?_
  refine Run.seq ?_
  refine Run.region ?_
  refine RunO.all (by simp only [go_sem, ↓reduceIte, Nat.reduceEqDiff, Nat.reduceLT, Nat.reduceLeDiff, Nat.reduceAdd, Int.natCast_nonneg, Int.ofNat_lt, List.length_map, decide_true, decide_false, ne_eq, not_true_eq_false, not_false_eq_true, Int.lt_irrefl, Int.le_refl, Nat.lt_add_one, Nat.le_refl] <;> rfl) ?_
  refine RunO.live' [0, 1, 6, 7] (by simp only [go_sem, ↓reduceIte, Nat.reduceEqDiff, Nat.reduceLT, Nat.reduceLeDiff, Nat.reduceAdd, Int.natCast_nonneg, Int.ofNat_lt, List.length_map, decide_true, decide_false, ne_eq, not_true_eq_false, not_false_eq_true, Int.lt_irrefl, Int.le_refl, Nat.lt_add_one, Nat.le_refl] <;> rfl) ?_
  refine Run.seq ?_
  refine Run.seq ?_
  refine Run.region ?_
  refine RunO.all (by simp only [go_sem, ↓reduceIte, Nat.reduceEqDiff, Nat.reduceLT, Nat.reduceLeDiff, Nat.reduceAdd, Int.natCast_nonneg, Int.ofNat_lt, List.length_map, decide_true, decide_false, ne_eq, not_true_eq_false, not_false_eq_true, Int.lt_irrefl, Int.le_refl, Nat.lt_add_one, Nat.le_refl] <;> rfl) ?_
  refine RunO.live' [1, 6, 7, 11, 12, 13] (by simp only [go_sem, ↓reduceIte, Nat.reduceEqDiff, Nat.reduceLT, Nat.reduceLeDiff, Nat.reduceAdd, Int.natCast_nonneg, Int.ofNat_lt, List.length_map, decide_true, decide_false, ne_eq, not_true_eq_false, not_false_eq_true, Int.lt_irrefl, Int.le_refl, Nat.lt_add_one, Nat.le_refl] <;> rfl) ?_
  refine Run.block ?_
  -- loop 0, live [1, 6, 7, 11, 12, 13]
  refine Run.loop (fun e s' => ∃ (q : Nat) (out left : List Item) (v : PV) (kk : SK), e = [(1, .int .i64 now), (6, v), (7, .sl kk (left.map Item.pv)), (11, .sl .unk (l.map Item.pv)), (12, .int .i64 l.length), (13, .int .i64 q)] ∧ s'.wf ∧ Rowed 37 s' s.nxt v (out.map Item.pv) ∧ Grows s' kk left.length 3 ∧ (∀ t z, kk = .tok t z → s.nxt ≤ t ∧ t < s'.nxt) ∧ q ≤ l.length ∧ out.Perm ((l.take q).filter (fun a => decide (a.tick ≤ now))) ∧ left = (l.take q).filter (fun a => decide (now < a.tick)) ∧ out.Pairwise (fun a b => b.lt a = false) ∧ s.nxt ≤ s'.nxt ∧ ∀ i, i < s.nxt → s'.blk i = s.blk i) (fun e s' => l.length - ivar e 13) ?_ ?_
  · exact ⟨0, [], [], .sl .nil [], .nil, rfl, hwf, .nil _ _ _, .inl ⟨rfl, rfl⟩, by simp, by omega, by simp, rfl, .nil, Nat.le_refl _, fun _ _ => rfl⟩
  rintro e s1 ⟨q, out, left, v, kk, rfl, wf1, hrow, hgr, htk, hq, hperm, hleft, hsort, hnx, hfr⟩
  refine Run.seq ?_
  refine Run.region ?_
  refine RunO.all (by simp only [go_sem, ↓reduceIte, Nat.reduceEqDiff, Nat.reduceLT, Nat.reduceLeDiff, Nat.reduceAdd, Int.natCast_nonneg, Int.ofNat_lt, List.length_map, decide_true, decide_false, ne_eq, not_true_eq_false, not_false_eq_true, Int.lt_irrefl, Int.le_refl, Nat.lt_add_one, Nat.le_refl] <;> rfl) ?_
  refine RunO.live' [1, 6, 7, 11, 12, 13, 14] (by simp only [go_sem, ↓reduceIte, Nat.reduceEqDiff, Nat.reduceLT, Nat.reduceLeDiff, Nat.reduceAdd, Int.natCast_nonneg, Int.ofNat_lt, List.length_map, decide_true, decide_false, ne_eq, not_true_eq_false, not_false_eq_true, Int.lt_irrefl, Int.le_refl, Nat.lt_add_one, Nat.le_refl] <;> rfl) ?_
  refine Run.seq ?_
  refine Run.cond (by simp only [go_sem, ↓reduceIte, Nat.reduceEqDiff, Nat.reduceLT, Nat.reduceLeDiff, Nat.reduceAdd, Int.natCast_nonneg, Int.ofNat_lt, List.length_map, decide_true, decide_false, ne_eq, not_true_eq_false, not_false_eq_true, Int.lt_irrefl, Int.le_refl, Nat.lt_add_one, Nat.le_refl] <;> rfl) (fun hc0 => ?_) (fun hc0 => ?_)
  · have hc := hc0
    refine Run.skip ?_
    refine Run.seq ?_
    refine Run.block ?_
    refine Run.seq ?_
    have hqo : q < l.length := by have := of_decide_eq_true hc0; omega
    have hll := List.length_filter_le (fun a : Item => decide (a.tick ≤ now)) (l.take q)
    have hlr := List.length_filter_le (fun a : Item => decide (now < a.tick)) (l.take q)
    have hol := hperm.length_eq
    simp only [List.length_take] at hll hlr
    have hlq : left.length ≤ l.length := by rw [hleft]; omega
    have hx : (l.map Item.pv)[q]? = some (.agg [.int .i64 (at0 l q).tick, .int .i64 (at0 l q).order, .int .i64 (at0 l q).key]) := map_at0 hqo
    have hwq : IntKind.i64.wrap ((q : Int) + 1) = ((q + 1 : Nat) : Int) := by rw [wrap_i64 (by omega)]; omega
    have hk1 : ∀ L z n, v = .own L z n → (s1.new (.row 37 [.agg [.int .i64 (at0 l q).tick, .int .i64 (at0 l q).order, .int .i64 (at0 l q).key]])).blk L = s1.blk L := fun L z n e => by
      have := hrow.lt wf1 e
      rw [blk_new, if_neg (by omega)]
    refine Run.region ?_
    refine RunO.all (by simp only [go_sem, ↓reduceIte, Nat.reduceEqDiff, Nat.reduceLT, Nat.reduceLeDiff, Nat.reduceAdd, Int.natCast_nonneg, Int.ofNat_lt, List.length_map, decide_true, decide_false, ne_eq, not_true_eq_false, not_false_eq_true, Int.lt_irrefl, Int.le_refl, Nat.lt_add_one, Nat.le_refl, hx, hwq] <;> rfl) ?_
    refine RunO.live' [1, 6, 7, 9, 11, 12, 13] (by simp only [go_sem, ↓reduceIte, Nat.reduceEqDiff, Nat.reduceLT, Nat.reduceLeDiff, Nat.reduceAdd, Int.natCast_nonneg, Int.ofNat_lt, List.length_map, decide_true, decide_false, ne_eq, not_true_eq_false, not_false_eq_true, Int.lt_irrefl, Int.le_refl, Nat.lt_add_one, Nat.le_refl, hx, hwq] <;> rfl) ?_
    refine Run.seq ?_
    refine Run.seq ?_
    refine Run.region ?_
    refine RunO.all (by simp only [go_sem, ↓reduceIte, Nat.reduceEqDiff, Nat.reduceLT, Nat.reduceLeDiff, Nat.reduceAdd, Int.natCast_nonneg, Int.ofNat_lt, List.length_map, decide_true, decide_false, ne_eq, not_true_eq_false, not_false_eq_true, Int.lt_irrefl, Int.le_refl, Nat.lt_add_one, Nat.le_refl, hx, hwq] <;> rfl) ?_
    refine RunO.live' [1, 6, 7, 9, 11, 12, 13, 20] (by simp only [go_sem, ↓reduceIte, Nat.reduceEqDiff, Nat.reduceLT, Nat.reduceLeDiff, Nat.reduceAdd, Int.natCast_nonneg, Int.ofNat_lt, List.length_map, decide_true, decide_false, ne_eq, not_true_eq_false, not_false_eq_true, Int.lt_irrefl, Int.le_refl, Nat.lt_add_one, Nat.le_refl, hx, hwq] <;> rfl) ?_
    refine Run.cond (by simp only [go_sem, ↓reduceIte, Nat.reduceEqDiff, Nat.reduceLT, Nat.reduceLeDiff, Nat.reduceAdd, Int.natCast_nonneg, Int.ofNat_lt, List.length_map, decide_true, decide_false, ne_eq, not_true_eq_false, not_false_eq_true, Int.lt_irrefl, Int.le_refl, Nat.lt_add_one, Nat.le_refl, hx, hwq] <;> rfl) (fun hc1 => ?_) (fun hc1 => ?_)
    · have hc := hc1
      refine Run.seq ?_
      have hgr2 : Grows (s1.new (.row 37 [.agg [.int .i64 (at0 l q).tick, .int .i64 (at0 l q).order, .int .i64 (at0 l q).key]])) kk (left.map Item.pv).length 3 := by
        rw [List.length_map]
        refine hgr.mono fun t ht => ?_
        have := htk t 3 ht
        rw [blk_new, if_neg (by omega)]
      refine Run.region ?_
      refine RunO.ops (pre := [_, _]) (by simp only [go_sem, ↓reduceIte, Nat.reduceEqDiff, Nat.reduceLT, Nat.reduceLeDiff, Nat.reduceAdd, Int.natCast_nonneg, Int.ofNat_lt, List.length_map, decide_true, decide_false, ne_eq, not_true_eq_false, not_false_eq_true, Int.lt_irrefl, Int.le_refl, Nat.lt_add_one, Nat.le_refl, hx, hwq] <;> rfl) ?_
      refine RunO.lit (by simp only [go_sem, ↓reduceIte, Nat.reduceEqDiff, Nat.reduceLT, Nat.reduceLeDiff, Nat.reduceAdd, Int.natCast_nonneg, Int.ofNat_lt, List.length_map, decide_true, decide_false, ne_eq, not_true_eq_false, not_false_eq_true, Int.lt_irrefl, Int.le_refl, Nat.lt_add_one, Nat.le_refl, hx, hwq] <;> rfl) (by simp only [go_sem, ↓reduceIte, Nat.reduceEqDiff, Nat.reduceLT, Nat.reduceLeDiff, Nat.reduceAdd, Int.natCast_nonneg, Int.ofNat_lt, List.length_map, decide_true, decide_false, ne_eq, not_true_eq_false, not_false_eq_true, Int.lt_irrefl, Int.le_refl, Nat.lt_add_one, Nat.le_refl, hx, hwq] <;> rfl) ?_
      refine RunO.grow (by simp only [go_sem, ↓reduceIte, Nat.reduceEqDiff, Nat.reduceLT, Nat.reduceLeDiff, Nat.reduceAdd, Int.natCast_nonneg, Int.ofNat_lt, List.length_map, decide_true, decide_false, ne_eq, not_true_eq_false, not_false_eq_true, Int.lt_irrefl, Int.le_refl, Nat.lt_add_one, Nat.le_refl, hx, hwq] <;> rfl) (by simp only [go_sem, ↓reduceIte, Nat.reduceEqDiff, Nat.reduceLT, Nat.reduceLeDiff, Nat.reduceAdd, Int.natCast_nonneg, Int.ofNat_lt, List.length_map, decide_true, decide_false, ne_eq, not_true_eq_false, not_false_eq_true, Int.lt_irrefl, Int.le_refl, Nat.lt_add_one, Nat.le_refl, hx, hwq] <;> rfl) (by simp only [go_sem, ↓reduceIte, Nat.reduceEqDiff, Nat.reduceLT, Nat.reduceLeDiff, Nat.reduceAdd, Int.natCast_nonneg, Int.ofNat_lt, List.length_map, decide_true, decide_false, ne_eq, not_true_eq_false, not_false_eq_true, Int.lt_irrefl, Int.le_refl, Nat.lt_add_one, Nat.le_refl, hx, hwq] <;> rfl) Try.td32 (by rw [Try.zp37]; rfl) (isEls_items _) (isEls_item (at0 l q)) (by rw [Try.by37]; decide) (by rw [Try.by37]; simp; omega) (by rw [Try.cz37]; exact hgr2) (by simp) ?_
      intro kk' s' hgr' htm
      refine RunO.all (by simp only [go_sem, ↓reduceIte, Nat.reduceEqDiff, Nat.reduceLT, Nat.reduceLeDiff, Nat.reduceAdd, Int.natCast_nonneg, Int.ofNat_lt, List.length_map, decide_true, decide_false, ne_eq, not_true_eq_false, not_false_eq_true, Int.lt_irrefl, Int.le_refl, Nat.lt_add_one, Nat.le_refl, hx, hwq] <;> rfl) ?_
      refine RunO.live' [1, 6, 7, 11, 12, 13] (by simp only [go_sem, ↓reduceIte, Nat.reduceEqDiff, Nat.reduceLT, Nat.reduceLeDiff, Nat.reduceAdd, Int.natCast_nonneg, Int.ofNat_lt, List.length_map, decide_true, decide_false, ne_eq, not_true_eq_false, not_false_eq_true, Int.lt_irrefl, Int.le_refl, Nat.lt_add_one, Nat.le_refl, hx, hwq] <;> rfl) ?_
      refine Run.exit ?_
      show Run _ _ _ _ _ _
      refine Run.region ?_
      refine RunO.all (by simp only [go_sem, ↓reduceIte, Nat.reduceEqDiff, Nat.reduceLT, Nat.reduceLeDiff, Nat.reduceAdd, Int.natCast_nonneg, Int.ofNat_lt, List.length_map, decide_true, decide_false, ne_eq, not_true_eq_false, not_false_eq_true, Int.lt_irrefl, Int.le_refl, Nat.lt_add_one, Nat.le_refl, hx, hwq] <;> rfl) ?_
      refine RunO.live' [1, 6, 7, 11, 12, 13] (by simp only [go_sem, ↓reduceIte, Nat.reduceEqDiff, Nat.reduceLT, Nat.reduceLeDiff, Nat.reduceAdd, Int.natCast_nonneg, Int.ofNat_lt, List.length_map, decide_true, decide_false, ne_eq, not_true_eq_false, not_false_eq_true, Int.lt_irrefl, Int.le_refl, Nat.lt_add_one, Nat.le_refl, hx, hwq] <;> rfl) ?_
      have ht : now < (at0 l q).tick := of_decide_eq_true hc1
      have hn2 := htm.nxt
      simp only [nxt_new] at hn2
      refine Run.lp ⟨⟨q + 1, out, left ++ [at0 l q], v, kk', ?_, htm.wf (new_wf wf1 _), hrow.keep fun L z n e => ?_, ?_, fun t z e => ?_, by omega, ?_, ?_, hsort, by omega, fun i hi => ?_⟩, ?_⟩
      · rw [List.map_append]; rfl
      · have h1 := hrow.lt wf1 e
        rw [htm.rest L (by rw [nxt_new]; omega) (fun z' e' => ?_), blk_new, if_neg (by omega)]
        rcases hrow with ⟨h, _⟩ | ⟨L', zs, h1, h2, h3, _⟩
        · rw [e] at h; cases h
        · rw [e] at h1; cases h1
          exact hgr.ne e' L h3 (by simp) rfl
      · rw [Try.cz37] at hgr'
        simpa using hgr'
      · rcases htm.fresh t z e with ⟨z', h⟩ | ⟨h1, h2⟩
        · have := htk t z' h
          omega
        · rw [nxt_new] at h1
          omega
      · rw [filter_snoc hqo, if_neg (by simpa using ht), List.append_nil]
        exact hperm
      · rw [filter_snoc hqo, if_pos (by simpa using ht), hleft]
      · rw [htm.rest i (by rw [nxt_new]; omega) (fun z e => by have := (htk i z e).1; omega), blk_new, if_neg (by omega)]
        exact hfr i hi
      · simp only [ivar, go_sem, ↓reduceIte, Nat.reduceEqDiff]
        omega
    · have hc := hc1
      refine Run.skip ?_
      refine Run.seq ?_
      refine Run.region ?_
      refine RunO.ops (pre := [_]) (by simp only [go_sem, ↓reduceIte, Nat.reduceEqDiff, Nat.reduceLT, Nat.reduceLeDiff, Nat.reduceAdd, Int.natCast_nonneg, Int.ofNat_lt, List.length_map, decide_true, decide_false, ne_eq, not_true_eq_false, not_false_eq_true, Int.lt_irrefl, Int.le_refl, Nat.lt_add_one, Nat.le_refl, hx, hwq] <;> rfl) ?_
      refine RunO.lenRowed (by simp only [go_sem, ↓reduceIte, Nat.reduceEqDiff, Nat.reduceLT, Nat.reduceLeDiff, Nat.reduceAdd, Int.natCast_nonneg, Int.ofNat_lt, List.length_map, decide_true, decide_false, ne_eq, not_true_eq_false, not_false_eq_true, Int.lt_irrefl, Int.le_refl, Nat.lt_add_one, Nat.le_refl, hx, hwq] <;> rfl) (by simp only [go_sem, ↓reduceIte, Nat.reduceEqDiff, Nat.reduceLT, Nat.reduceLeDiff, Nat.reduceAdd, Int.natCast_nonneg, Int.ofNat_lt, List.length_map, decide_true, decide_false, ne_eq, not_true_eq_false, not_false_eq_true, Int.lt_irrefl, Int.le_refl, Nat.lt_add_one, Nat.le_refl, hx, hwq] <;> rfl) Try.td32 (hrow.keep hk1) ?_
      refine RunO.all (by simp only [go_sem, ↓reduceIte, Nat.reduceEqDiff, Nat.reduceLT, Nat.reduceLeDiff, Nat.reduceAdd, Int.natCast_nonneg, Int.ofNat_lt, List.length_map, decide_true, decide_false, ne_eq, not_true_eq_false, not_false_eq_true, Int.lt_irrefl, Int.le_refl, Nat.lt_add_one, Nat.le_refl, hx, hwq] <;> rfl) ?_
      refine RunO.live' [1, 6, 7, 9, 10, 11, 12, 13] (by simp only [go_sem, ↓reduceIte, Nat.reduceEqDiff, Nat.reduceLT, Nat.reduceLeDiff, Nat.reduceAdd, Int.natCast_nonneg, Int.ofNat_lt, List.length_map, decide_true, decide_false, ne_eq, not_true_eq_false, not_false_eq_true, Int.lt_irrefl, Int.le_refl, Nat.lt_add_one, Nat.le_refl, hx, hwq] <;> rfl) ?_
      refine Run.seq ?_
      refine Run.region ?_
      refine RunO.ops (pre := [_, _]) (by simp only [go_sem, ↓reduceIte, Nat.reduceEqDiff, Nat.reduceLT, Nat.reduceLeDiff, Nat.reduceAdd, Int.natCast_nonneg, Int.ofNat_lt, List.length_map, decide_true, decide_false, ne_eq, not_true_eq_false, not_false_eq_true, Int.lt_irrefl, Int.le_refl, Nat.lt_add_one, Nat.le_refl, hx, hwq] <;> rfl) ?_
      refine RunO.lit (by simp only [go_sem, ↓reduceIte, Nat.reduceEqDiff, Nat.reduceLT, Nat.reduceLeDiff, Nat.reduceAdd, Int.natCast_nonneg, Int.ofNat_lt, List.length_map, decide_true, decide_false, ne_eq, not_true_eq_false, not_false_eq_true, Int.lt_irrefl, Int.le_refl, Nat.lt_add_one, Nat.le_refl, hx, hwq] <;> rfl) (by simp only [go_sem, ↓reduceIte, Nat.reduceEqDiff, Nat.reduceLT, Nat.reduceLeDiff, Nat.reduceAdd, Int.natCast_nonneg, Int.ofNat_lt, List.length_map, decide_true, decide_false, ne_eq, not_true_eq_false, not_false_eq_true, Int.lt_irrefl, Int.le_refl, Nat.lt_add_one, Nat.le_refl, hx, hwq] <;> rfl) ?_
      refine RunO.appendRowed (by simp only [go_sem, ↓reduceIte, Nat.reduceEqDiff, Nat.reduceLT, Nat.reduceLeDiff, Nat.reduceAdd, Int.natCast_nonneg, Int.ofNat_lt, List.length_map, decide_true, decide_false, ne_eq, not_true_eq_false, not_false_eq_true, Int.lt_irrefl, Int.le_refl, Nat.lt_add_one, Nat.le_refl, hx, hwq] <;> rfl) (by simp only [go_sem, ↓reduceIte, Nat.reduceEqDiff, Nat.reduceLT, Nat.reduceLeDiff, Nat.reduceAdd, Int.natCast_nonneg, Int.ofNat_lt, List.length_map, decide_true, decide_false, ne_eq, not_true_eq_false, not_false_eq_true, Int.lt_irrefl, Int.le_refl, Nat.lt_add_one, Nat.le_refl, hx, hwq] <;> rfl) (by simp only [go_sem, ↓reduceIte, Nat.reduceEqDiff, Nat.reduceLT, Nat.reduceLeDiff, Nat.reduceAdd, Int.natCast_nonneg, Int.ofNat_lt, List.length_map, decide_true, decide_false, ne_eq, not_true_eq_false, not_false_eq_true, Int.lt_irrefl, Int.le_refl, Nat.lt_add_one, Nat.le_refl, hx, hwq] <;> rfl) Try.td32 (by rw [Try.zp37]; rfl) (isEls_item (at0 l q)) (by rw [Try.by37]; decide) (by rw [Try.by37]; simp; omega) (by simp) (hrow.keep hk1) (by simp only [nxt_new]; omega) ?_
      intro s2 nx2 bl2 fr2 wf2 rw2
      simp only [nxt_new] at nx2 bl2 fr2 rw2
      simp only [nxt_new]
      rw [show [(at0 l q).pv] = [at0 l q].map Item.pv from rfl, ← List.map_append] at bl2
      have hX2 : s2.blk s1.nxt = some (.row 37 [.agg [.int .i64 (at0 l q).tick, .int .i64 (at0 l q).order, .int .i64 (at0 l q).key]]) := by
        rw [fr2 _ (by omega) (fun z n e => by have := (hrow.lt wf1 e).2; omega), blk_new, if_pos rfl]
      obtain ⟨Lo, hLo⟩ : ∃ x, s1.nxt + 1 = x := ⟨_, rfl⟩
      rw [hLo] at bl2 rw2 fr2 nx2 ⊢
      obtain ⟨Xo, hXo⟩ : ∃ x, s1.nxt = x := ⟨_, rfl⟩
      rw [hXo] at hX2 ⊢
      have hLX : (Lo = Xo) = False := eq_false (by omega)
      have hXL : (Xo = Lo) = False := eq_false (by omega)
      refine RunO.all (by simp only [go_sem, ↓reduceIte, Nat.reduceEqDiff, Nat.reduceLT, Nat.reduceLeDiff, Nat.reduceAdd, Int.natCast_nonneg, Int.ofNat_lt, List.length_map, decide_true, decide_false, ne_eq, not_true_eq_false, not_false_eq_true, Int.lt_irrefl, Int.le_refl, Nat.lt_add_one, Nat.le_refl, hx, hwq] <;> rfl) ?_
      refine RunO.live' [1, 6, 7, 9, 10, 11, 12, 13] (by simp only [go_sem, ↓reduceIte, Nat.reduceEqDiff, Nat.reduceLT, Nat.reduceLeDiff, Nat.reduceAdd, Int.natCast_nonneg, Int.ofNat_lt, List.length_map, decide_true, decide_false, ne_eq, not_true_eq_false, not_false_eq_true, Int.lt_irrefl, Int.le_refl, Nat.lt_add_one, Nat.le_refl, hx, hwq] <;> rfl) ?_
      refine Run.seq ?_
      refine Run.block ?_
      -- loop 1, live [1, 6, 7, 9, 10, 11, 12, 13]
      refine Run.loop (fun e s' => ∃ (k : Nat) (zs : List Item), e = [(1, .int .i64 now), (6, .own Lo 0 (out.length + 1)), (7, .sl kk (left.map Item.pv)), (9, .ptr Xo 0 0), (10, .int .i64 k), (11, .sl .unk (l.map Item.pv)), (12, .int .i64 l.length), (13, .int .i64 q)] ∧ s' = s2.set Lo (some (.row 37 (zs.map Item.pv))) ∧ zs.length = out.length + 1 ∧ k ≤ out.length ∧ (∀ j, j < k → at0 zs j = at0 out j) ∧ (∀ j, k ≤ j → j < out.length → at0 zs (j + 1) = at0 out j) ∧ ∀ j, k ≤ j → j < out.length → (at0 l q).lt (at0 out j) = true) (fun e s' => ivar e 10) ?_ ?_
      · exact ⟨out.length, out ++ [at0 l q], by simp, (set_self bl2).symm, by simp, Nat.le_refl _, fun j hj => at0_app hj, fun j h1 h2 => by omega, fun j h1 h2 => by omega⟩
      rintro e s3 ⟨k, zs, rfl, rfl, hzl0, hkn, hz1, hz2, hz3⟩
      refine Run.seq ?_
      refine Run.seq ?_
      have hL1 : (s2.set Lo (some (.row 37 (zs.map Item.pv)))).blk Lo = some (.row 37 (zs.map Item.pv)) := by rw [blk_set, if_pos rfl]
      refine Run.drawC [] [1, 6, 7, 9, 10, 11, 12, 13, 41] Try.mixed (by kernel_rfl) ?_
      refine DetC.pre (pre := [_, _, _]) (by simp only [go_sem, ↓reduceIte, Nat.reduceEqDiff, Nat.reduceLT, Nat.reduceLeDiff, Nat.reduceAdd, Int.natCast_nonneg, Int.ofNat_lt, List.length_map, decide_true, decide_false, ne_eq, not_true_eq_false, not_false_eq_true, Int.lt_irrefl, Int.le_refl, Nat.lt_add_one, Nat.le_refl, hx, hwq, hL1, hX2, hLX, hXL] <;> rfl) ?_
      rcases hd2 : (decide ((0 : Int) < (k : Int))) with _ | _
      · refine DetC.gskip' (by simp only [go_sem, ↓reduceIte, Nat.reduceEqDiff, Nat.reduceLT, Nat.reduceLeDiff, Nat.reduceAdd, Int.natCast_nonneg, Int.ofNat_lt, List.length_map, decide_true, decide_false, ne_eq, not_true_eq_false, not_false_eq_true, Int.lt_irrefl, Int.le_refl, Nat.lt_add_one, Nat.le_refl, hx, hwq, hL1, hX2, hLX, hXL, hd2] <;> rfl) ?_
        refine DetC.gskip' (by simp only [go_sem, ↓reduceIte, Nat.reduceEqDiff, Nat.reduceLT, Nat.reduceLeDiff, Nat.reduceAdd, Int.natCast_nonneg, Int.ofNat_lt, List.length_map, decide_true, decide_false, ne_eq, not_true_eq_false, not_false_eq_true, Int.lt_irrefl, Int.le_refl, Nat.lt_add_one, Nat.le_refl, hx, hwq, hL1, hX2, hLX, hXL, hd2] <;> rfl) ?_
        refine DetC.gskip' (by simp only [go_sem, ↓reduceIte, Nat.reduceEqDiff, Nat.reduceLT, Nat.reduceLeDiff, Nat.reduceAdd, Int.natCast_nonneg, Int.ofNat_lt, List.length_map, decide_true, decide_false, ne_eq, not_true_eq_false, not_false_eq_true, Int.lt_irrefl, Int.le_refl, Nat.lt_add_one, Nat.le_refl, hx, hwq, hL1, hX2, hLX, hXL, hd2] <;> rfl) ?_
        refine DetC.gskip' (by simp only [go_sem, ↓reduceIte, Nat.reduceEqDiff, Nat.reduceLT, Nat.reduceLeDiff, Nat.reduceAdd, Int.natCast_nonneg, Int.ofNat_lt, List.length_map, decide_true, decide_false, ne_eq, not_true_eq_false, not_false_eq_true, Int.lt_irrefl, Int.le_refl, Nat.lt_add_one, Nat.le_refl, hx, hwq, hL1, hX2, hLX, hXL, hd2] <;> rfl) ?_
        refine DetC.gskip' (by simp only [go_sem, ↓reduceIte, Nat.reduceEqDiff, Nat.reduceLT, Nat.reduceLeDiff, Nat.reduceAdd, Int.natCast_nonneg, Int.ofNat_lt, List.length_map, decide_true, decide_false, ne_eq, not_true_eq_false, not_false_eq_true, Int.lt_irrefl, Int.le_refl, Nat.lt_add_one, Nat.le_refl, hx, hwq, hL1, hX2, hLX, hXL, hd2] <;> rfl) ?_
        refine DetC.gskip' (by simp only [go_sem, ↓reduceIte, Nat.reduceEqDiff, Nat.reduceLT, Nat.reduceLeDiff, Nat.reduceAdd, Int.natCast_nonneg, Int.ofNat_lt, List.length_map, decide_true, decide_false, ne_eq, not_true_eq_false, not_false_eq_true, Int.lt_irrefl, Int.le_refl, Nat.lt_add_one, Nat.le_refl, hx, hwq, hL1, hX2, hLX, hXL, hd2] <;> rfl) ?_
        refine DetC.gskip' (by simp only [go_sem, ↓reduceIte, Nat.reduceEqDiff, Nat.reduceLT, Nat.reduceLeDiff, Nat.reduceAdd, Int.natCast_nonneg, Int.ofNat_lt, List.length_map, decide_true, decide_false, ne_eq, not_true_eq_false, not_false_eq_true, Int.lt_irrefl, Int.le_refl, Nat.lt_add_one, Nat.le_refl, hx, hwq, hL1, hX2, hLX, hXL, hd2] <;> rfl) ?_
        refine DetC.all (by simp only [go_sem, ↓reduceIte, Nat.reduceEqDiff, Nat.reduceLT, Nat.reduceLeDiff, Nat.reduceAdd, Int.natCast_nonneg, Int.ofNat_lt, List.length_map, decide_true, decide_false, ne_eq, not_true_eq_false, not_false_eq_true, Int.lt_irrefl, Int.le_refl, Nat.lt_add_one, Nat.le_refl, hx, hwq, hL1, hX2, hLX, hXL, hd2] <;> rfl) ?_
        refine Run.envEq' (by simp only [go_sem, ↓reduceIte, Nat.reduceEqDiff, Nat.reduceLT, Nat.reduceLeDiff, Nat.reduceAdd, Int.natCast_nonneg, Int.ofNat_lt, List.length_map, decide_true, decide_false, ne_eq, not_true_eq_false, not_false_eq_true, Int.lt_irrefl, Int.le_refl, Nat.lt_add_one, Nat.le_refl, hx, hwq, hL1, hX2, hLX, hXL, hd2] <;> rfl) ?_
        refine Run.cond (by simp only [go_sem, ↓reduceIte, Nat.reduceEqDiff, Nat.reduceLT, Nat.reduceLeDiff, Nat.reduceAdd, Int.natCast_nonneg, Int.ofNat_lt, List.length_map, decide_true, decide_false, ne_eq, not_true_eq_false, not_false_eq_true, Int.lt_irrefl, Int.le_refl, Nat.lt_add_one, Nat.le_refl, hx, hwq, hL1, hX2, hLX, hXL, hd2] <;> rfl) (fun hc2 => ?_) (fun hc2 => ?_)
        · cases hc2
        · have hc := hc2
          refine Run.exit ?_
          show Run _ _ _ _ _ _
          have hk9 : (k < zs.length) = True := eq_true (by omega)
          have hk8 : (k < out.length + 1) = True := eq_true (by omega)
          have hzk : (zs.map Item.pv)[k]? = some (.agg [.int .i64 (at0 zs k).tick, .int .i64 (at0 zs k).order, .int .i64 (at0 zs k).key]) := map_at0 (by omega)
          refine Run.region ?_
          refine RunO.all (by simp only [go_sem, ↓reduceIte, Nat.reduceEqDiff, Nat.reduceLT, Nat.reduceLeDiff, Nat.reduceAdd, Int.natCast_nonneg, Int.ofNat_lt, List.length_map, decide_true, decide_false, ne_eq, not_true_eq_false, not_false_eq_true, Int.lt_irrefl, Int.le_refl, Nat.lt_add_one, Nat.le_refl, hx, hwq, hL1, hX2, hLX, hXL, hd2, hk9, hk8, hzk] <;> rfl) ?_
          refine RunO.live' [1, 6, 7, 11, 12, 13] (by simp only [go_sem, ↓reduceIte, Nat.reduceEqDiff, Nat.reduceLT, Nat.reduceLeDiff, Nat.reduceAdd, Int.natCast_nonneg, Int.ofNat_lt, List.length_map, decide_true, decide_false, ne_eq, not_true_eq_false, not_false_eq_true, Int.lt_irrefl, Int.le_refl, Nat.lt_add_one, Nat.le_refl, hx, hwq, hL1, hX2, hLX, hXL, hd2, hk9, hk8, hzk] <;> rfl) ?_
          refine Run.blk ?_
          refine Run.region ?_
          refine RunO.all (by simp only [go_sem, ↓reduceIte, Nat.reduceEqDiff, Nat.reduceLT, Nat.reduceLeDiff, Nat.reduceAdd, Int.natCast_nonneg, Int.ofNat_lt, List.length_map, decide_true, decide_false, ne_eq, not_true_eq_false, not_false_eq_true, Int.lt_irrefl, Int.le_refl, Nat.lt_add_one, Nat.le_refl, hx, hwq, hL1, hX2, hLX, hXL, hd2, hk9, hk8, hzk] <;> rfl) ?_
          refine RunO.live' [1, 6, 7, 11, 12, 13] (by simp only [go_sem, ↓reduceIte, Nat.reduceEqDiff, Nat.reduceLT, Nat.reduceLeDiff, Nat.reduceAdd, Int.natCast_nonneg, Int.ofNat_lt, List.length_map, decide_true, decide_false, ne_eq, not_true_eq_false, not_false_eq_true, Int.lt_irrefl, Int.le_refl, Nat.lt_add_one, Nat.le_refl, hx, hwq, hL1, hX2, hLX, hXL, hd2, hk9, hk8, hzk] <;> rfl) ?_
          have ht : (at0 l q).tick ≤ now := by have := of_decide_eq_false hc1; omega
          have hfin : k = 0 ∨ (at0 l q).lt (at0 out (k - 1)) = false := by
            first
              | exact .inr hc2
              | (refine .inl ?_
                 have := of_decide_eq_false hd2
                 omega)
          have he := ins_eq (x := at0 l q) hzl0 hkn hz1 hz2
          have hfr3 : ∀ i, i < s1.nxt → (∀ z n, v ≠ .own i z n) → (s2.set Lo (some (.row 37 ((zs.set k (at0 l q)).map Item.pv)))).blk i = s1.blk i := fun i hi hv => by
            rw [blk_set, if_neg (by omega), fr2 i (by omega) hv, blk_new, if_neg (by omega)]
          rw [set_set', show (zs.map Item.pv).set k (.agg [.int .i64 (at0 l q).tick, .int .i64 (at0 l q).order, .int .i64 (at0 l q).key]) = (zs.set k (at0 l q)).map Item.pv by rw [List.map_set]; rfl]
          refine Run.lp ⟨⟨q + 1, out.take k ++ at0 l q :: out.drop k, left, .own Lo 0 (out.length + 1), kk, rfl, ?_, ?_, ?_, fun t z e => ?_, by omega, ?_, ?_, ins_sorted hsort hkn hz3 hfin, ?_, fun i hi => ?_⟩, ?_⟩
          · intro i hi
            rw [nxt_set] at hi
            rw [blk_set, if_neg (by omega)]
            exact wf2 (new_wf wf1 _) i hi
          · refine .inr ⟨Lo, (zs.set k (at0 l q)).map Item.pv, ?_, by omega, ?_, ?_, ?_⟩
            · rw [← he]; simp [hzl0]
            · rw [blk_set, if_pos rfl]
            · rw [← he]; exact Nat.le_refl _
            · rw [← he]; exact List.take_length
          · refine hgr.mono fun t ht => hfr3 t (htk t 3 ht).2 fun z n e => ?_
            rcases hrow with ⟨h, _⟩ | ⟨L', zs, h1, h2, h3, _⟩
            · rw [e] at h; cases h
            · rw [e] at h1; cases h1
              exact hgr.ne ht t h3 (by simp) rfl
          · have := htk t z e
            rw [nxt_set]
            omega
          · rw [filter_snoc hqo, if_pos (by simpa using ht)]
            exact (ins_perm out (at0 l q) k).trans (hperm.append_right _)
          · rw [filter_snoc hqo, if_neg (by simp; omega), List.append_nil, hleft]
          · rw [nxt_set]; omega
          · rw [hfr3 i (by omega) (fun z n e => by have := (hrow.lt wf1 e).1; omega)]
            exact hfr i hi
          · simp only [ivar, go_sem, ↓reduceIte, Nat.reduceEqDiff]
            omega
      · have hk0 : 0 < k := by have := of_decide_eq_true hd2; omega
        have hws : IntKind.i64.wrap ((k : Int) - 1) = ((k - 1 : Nat) : Int) := by rw [wrap_i64 (by omega)]; omega
        have hkl : ((k : Int) - 1 < (zs.length : Int)) = True := eq_true (by omega)
        have hk9 : (k - 1 < zs.length) = True := eq_true (by omega)
        have hk7 : (k - 1 < out.length + 1) = True := eq_true (by omega)
        have hxp : (zs.map Item.pv)[k - 1]? = some (.agg [.int .i64 (at0 out (k - 1)).tick, .int .i64 (at0 out (k - 1)).order, .int .i64 (at0 out (k - 1)).key]) := by rw [map_at0 (by omega), hz1 (k - 1) (by omega)]; rfl
        refine DetC.gdo (by simp only [go_sem, ↓reduceIte, Nat.reduceEqDiff, Nat.reduceLT, Nat.reduceLeDiff, Nat.reduceAdd, Int.natCast_nonneg, Int.ofNat_lt, List.length_map, decide_true, decide_false, ne_eq, not_true_eq_false, not_false_eq_true, Int.lt_irrefl, Int.le_refl, Nat.lt_add_one, Nat.le_refl, hx, hwq, hL1, hX2, hLX, hXL, hd2, hws, hkl, hk9, hk7, hxp] <;> rfl) (by simp only [go_sem, ↓reduceIte, Nat.reduceEqDiff, Nat.reduceLT, Nat.reduceLeDiff, Nat.reduceAdd, Int.natCast_nonneg, Int.ofNat_lt, List.length_map, decide_true, decide_false, ne_eq, not_true_eq_false, not_false_eq_true, Int.lt_irrefl, Int.le_refl, Nat.lt_add_one, Nat.le_refl, hx, hwq, hL1, hX2, hLX, hXL, hd2, hws, hkl, hk9, hk7, hxp] <;> rfl) ?_
        refine DetC.gdo (by simp only [go_sem, ↓reduceIte, Nat.reduceEqDiff, Nat.reduceLT, Nat.reduceLeDiff, Nat.reduceAdd, Int.natCast_nonneg, Int.ofNat_lt, List.length_map, decide_true, decide_false, ne_eq, not_true_eq_false, not_false_eq_true, Int.lt_irrefl, Int.le_refl, Nat.lt_add_one, Nat.le_refl, hx, hwq, hL1, hX2, hLX, hXL, hd2, hws, hkl, hk9, hk7, hxp] <;> rfl) (by simp only [go_sem, ↓reduceIte, Nat.reduceEqDiff, Nat.reduceLT, Nat.reduceLeDiff, Nat.reduceAdd, Int.natCast_nonneg, Int.ofNat_lt, List.length_map, decide_true, decide_false, ne_eq, not_true_eq_false, not_false_eq_true, Int.lt_irrefl, Int.le_refl, Nat.lt_add_one, Nat.le_refl, hx, hwq, hL1, hX2, hLX, hXL, hd2, hws, hkl, hk9, hk7, hxp] <;> rfl) ?_
        refine DetC.gdo (by simp only [go_sem, ↓reduceIte, Nat.reduceEqDiff, Nat.reduceLT, Nat.reduceLeDiff, Nat.reduceAdd, Int.natCast_nonneg, Int.ofNat_lt, List.length_map, decide_true, decide_false, ne_eq, not_true_eq_false, not_false_eq_true, Int.lt_irrefl, Int.le_refl, Nat.lt_add_one, Nat.le_refl, hx, hwq, hL1, hX2, hLX, hXL, hd2, hws, hkl, hk9, hk7, hxp] <;> rfl) (by simp only [go_sem, ↓reduceIte, Nat.reduceEqDiff, Nat.reduceLT, Nat.reduceLeDiff, Nat.reduceAdd, Int.natCast_nonneg, Int.ofNat_lt, List.length_map, decide_true, decide_false, ne_eq, not_true_eq_false, not_false_eq_true, Int.lt_irrefl, Int.le_refl, Nat.lt_add_one, Nat.le_refl, hx, hwq, hL1, hX2, hLX, hXL, hd2, hws, hkl, hk9, hk7, hxp] <;> rfl) ?_
        refine DetC.gdo (by simp only [go_sem, ↓reduceIte, Nat.reduceEqDiff, Nat.reduceLT, Nat.reduceLeDiff, Nat.reduceAdd, Int.natCast_nonneg, Int.ofNat_lt, List.length_map, decide_true, decide_false, ne_eq, not_true_eq_false, not_false_eq_true, Int.lt_irrefl, Int.le_refl, Nat.lt_add_one, Nat.le_refl, hx, hwq, hL1, hX2, hLX, hXL, hd2, hws, hkl, hk9, hk7, hxp] <;> rfl) (by simp only [go_sem, ↓reduceIte, Nat.reduceEqDiff, Nat.reduceLT, Nat.reduceLeDiff, Nat.reduceAdd, Int.natCast_nonneg, Int.ofNat_lt, List.length_map, decide_true, decide_false, ne_eq, not_true_eq_false, not_false_eq_true, Int.lt_irrefl, Int.le_refl, Nat.lt_add_one, Nat.le_refl, hx, hwq, hL1, hX2, hLX, hXL, hd2, hws, hkl, hk9, hk7, hxp] <;> rfl) ?_
        refine DetC.gdo (by simp only [go_sem, ↓reduceIte, Nat.reduceEqDiff, Nat.reduceLT, Nat.reduceLeDiff, Nat.reduceAdd, Int.natCast_nonneg, Int.ofNat_lt, List.length_map, decide_true, decide_false, ne_eq, not_true_eq_false, not_false_eq_true, Int.lt_irrefl, Int.le_refl, Nat.lt_add_one, Nat.le_refl, hx, hwq, hL1, hX2, hLX, hXL, hd2, hws, hkl, hk9, hk7, hxp] <;> rfl) (by simp only [go_sem, ↓reduceIte, Nat.reduceEqDiff, Nat.reduceLT, Nat.reduceLeDiff, Nat.reduceAdd, Int.natCast_nonneg, Int.ofNat_lt, List.length_map, decide_true, decide_false, ne_eq, not_true_eq_false, not_false_eq_true, Int.lt_irrefl, Int.le_refl, Nat.lt_add_one, Nat.le_refl, hx, hwq, hL1, hX2, hLX, hXL, hd2, hws, hkl, hk9, hk7, hxp] <;> rfl) ?_
        refine DetC.gdo (by simp only [go_sem, ↓reduceIte, Nat.reduceEqDiff, Nat.reduceLT, Nat.reduceLeDiff, Nat.reduceAdd, Int.natCast_nonneg, Int.ofNat_lt, List.length_map, decide_true, decide_false, ne_eq, not_true_eq_false, not_false_eq_true, Int.lt_irrefl, Int.le_refl, Nat.lt_add_one, Nat.le_refl, hx, hwq, hL1, hX2, hLX, hXL, hd2, hws, hkl, hk9, hk7, hxp] <;> rfl) (by simp only [go_sem, ↓reduceIte, Nat.reduceEqDiff, Nat.reduceLT, Nat.reduceLeDiff, Nat.reduceAdd, Int.natCast_nonneg, Int.ofNat_lt, List.length_map, decide_true, decide_false, ne_eq, not_true_eq_false, not_false_eq_true, Int.lt_irrefl, Int.le_refl, Nat.lt_add_one, Nat.le_refl, hx, hwq, hL1, hX2, hLX, hXL, hd2, hws, hkl, hk9, hk7, hxp] <;> rfl) ?_
        refine DetC.call (by simp only [go_sem, ↓reduceIte, Nat.reduceEqDiff, Nat.reduceLT, Nat.reduceLeDiff, Nat.reduceAdd, Int.natCast_nonneg, Int.ofNat_lt, List.length_map, decide_true, decide_false, ne_eq, not_true_eq_false, not_false_eq_true, Int.lt_irrefl, Int.le_refl, Nat.lt_add_one, Nat.le_refl, hx, hwq, hL1, hX2, hLX, hXL, hd2, hws, hkl, hk9, hk7, hxp] <;> rfl) (by simp only [go_sem, ↓reduceIte, Nat.reduceEqDiff, Nat.reduceLT, Nat.reduceLeDiff, Nat.reduceAdd, Int.natCast_nonneg, Int.ofNat_lt, List.length_map, decide_true, decide_false, ne_eq, not_true_eq_false, not_false_eq_true, Int.lt_irrefl, Int.le_refl, Nat.lt_add_one, Nat.le_refl, hx, hwq, hL1, hX2, hLX, hXL, hd2, hws, hkl, hk9, hk7, hxp] <;> rfl) (by simp only [go_sem, ↓reduceIte, Nat.reduceEqDiff, Nat.reduceLT, Nat.reduceLeDiff, Nat.reduceAdd, Int.natCast_nonneg, Int.ofNat_lt, List.length_map, decide_true, decide_false, ne_eq, not_true_eq_false, not_false_eq_true, Int.lt_irrefl, Int.le_refl, Nat.lt_add_one, Nat.le_refl, hx, hwq, hL1, hX2, hLX, hXL, hd2, hws, hkl, hk9, hk7, hxp] <;> rfl) (by kernel_rfl) (before_ (a := at0 l q) (b := at0 out (k - 1))) ?_
        refine DetC.all (by simp only [go_sem, ↓reduceIte, Nat.reduceEqDiff, Nat.reduceLT, Nat.reduceLeDiff, Nat.reduceAdd, Int.natCast_nonneg, Int.ofNat_lt, List.length_map, decide_true, decide_false, ne_eq, not_true_eq_false, not_false_eq_true, Int.lt_irrefl, Int.le_refl, Nat.lt_add_one, Nat.le_refl, hx, hwq, hL1, hX2, hLX, hXL, hd2, hws, hkl, hk9, hk7, hxp] <;> rfl) ?_
        refine Run.envEq' (by simp only [go_sem, ↓reduceIte, Nat.reduceEqDiff, Nat.reduceLT, Nat.reduceLeDiff, Nat.reduceAdd, Int.natCast_nonneg, Int.ofNat_lt, List.length_map, decide_true, decide_false, ne_eq, not_true_eq_false, not_false_eq_true, Int.lt_irrefl, Int.le_refl, Nat.lt_add_one, Nat.le_refl, hx, hwq, hL1, hX2, hLX, hXL, hd2, hws, hkl, hk9, hk7, hxp] <;> rfl) ?_
        refine Run.cond (by simp only [go_sem, ↓reduceIte, Nat.reduceEqDiff, Nat.reduceLT, Nat.reduceLeDiff, Nat.reduceAdd, Int.natCast_nonneg, Int.ofNat_lt, List.length_map, decide_true, decide_false, ne_eq, not_true_eq_false, not_false_eq_true, Int.lt_irrefl, Int.le_refl, Nat.lt_add_one, Nat.le_refl, hx, hwq, hL1, hX2, hLX, hXL, hd2, hws, hkl, hk9, hk7, hxp] <;> rfl) (fun hc2 => ?_) (fun hc2 => ?_)
        · have hc := hc2
          refine Run.skip ?_
          refine Run.block ?_
          refine Run.seq ?_
          have hk0 : 0 < k := by
            rcases Nat.eq_zero_or_pos k with h | h
            · subst h; simp at hd2
            · exact h
          have hzl : ((k : Int) < (zs.length : Int)) = True := eq_true (by omega)
          have hkl : ((k : Int) - 1 < (zs.length : Int)) = True := eq_true (by omega)
          have hk9 : (k < zs.length) = True := eq_true (by omega)
          have hk8 : (k < out.length + 1) = True := eq_true (by omega)
          have hzk : (zs.map Item.pv)[k]? = some (.agg [.int .i64 (at0 zs k).tick, .int .i64 (at0 zs k).order, .int .i64 (at0 zs k).key]) := map_at0 (by omega)
          refine Run.region ?_
          refine RunO.all (by simp only [go_sem, ↓reduceIte, Nat.reduceEqDiff, Nat.reduceLT, Nat.reduceLeDiff, Nat.reduceAdd, Int.natCast_nonneg, Int.ofNat_lt, List.length_map, decide_true, decide_false, ne_eq, not_true_eq_false, not_false_eq_true, Int.lt_irrefl, Int.le_refl, Nat.lt_add_one, Nat.le_refl, hx, hwq, hL1, hX2, hLX, hXL, hd2, hws, hkl, hk9, hk7, hxp, hzl, hkl, hk9, hk8, hzk] <;> rfl) ?_
          refine RunO.live' [1, 6, 7, 9, 10, 11, 12, 13] (by simp only [go_sem, ↓reduceIte, Nat.reduceEqDiff, Nat.reduceLT, Nat.reduceLeDiff, Nat.reduceAdd, Int.natCast_nonneg, Int.ofNat_lt, List.length_map, decide_true, decide_false, ne_eq, not_true_eq_false, not_false_eq_true, Int.lt_irrefl, Int.le_refl, Nat.lt_add_one, Nat.le_refl, hx, hwq, hL1, hX2, hLX, hXL, hd2, hws, hkl, hk9, hk7, hxp, hzl, hkl, hk9, hk8, hzk] <;> rfl) ?_
          refine Run.region ?_
          refine RunO.all (by simp only [go_sem, ↓reduceIte, Nat.reduceEqDiff, Nat.reduceLT, Nat.reduceLeDiff, Nat.reduceAdd, Int.natCast_nonneg, Int.ofNat_lt, List.length_map, decide_true, decide_false, ne_eq, not_true_eq_false, not_false_eq_true, Int.lt_irrefl, Int.le_refl, Nat.lt_add_one, Nat.le_refl, hx, hwq, hL1, hX2, hLX, hXL, hd2, hws, hkl, hk9, hk7, hxp, hzl, hkl, hk9, hk8, hzk] <;> rfl) ?_
          refine RunO.live' [1, 6, 7, 9, 10, 11, 12, 13] (by simp only [go_sem, ↓reduceIte, Nat.reduceEqDiff, Nat.reduceLT, Nat.reduceLeDiff, Nat.reduceAdd, Int.natCast_nonneg, Int.ofNat_lt, List.length_map, decide_true, decide_false, ne_eq, not_true_eq_false, not_false_eq_true, Int.lt_irrefl, Int.le_refl, Nat.lt_add_one, Nat.le_refl, hx, hwq, hL1, hX2, hLX, hXL, hd2, hws, hkl, hk9, hk7, hxp, hzl, hkl, hk9, hk8, hzk] <;> rfl) ?_
          refine Run.blk ?_
          rw [set_set', show (zs.map Item.pv).set k (.agg [.int .i64 (at0 out (k - 1)).tick, .int .i64 (at0 out (k - 1)).order, .int .i64 (at0 out (k - 1)).key]) = (zs.set k (at0 out (k - 1))).map Item.pv by rw [List.map_set]; rfl]
          refine Run.lp ⟨⟨k - 1, zs.set k (at0 out (k - 1)), rfl, rfl, by simpa using hzl0, by omega, fun j hj => ?_, fun j h1 h2 => ?_, fun j h1 h2 => ?_⟩, ?_⟩
          · rw [at0_set_ne (by omega)]
            exact hz1 j (by omega)
          · by_cases e : j = k - 1
            · subst e
              rw [show k - 1 + 1 = k by omega, at0_set_self (by omega)]
            · rw [at0_set_ne (by omega)]
              exact hz2 j (by omega) h2
          · by_cases e : j = k - 1
            · subst e; exact hc2
            · exact hz3 j (by omega) h2
          · simp only [ivar, go_sem, ↓reduceIte, Nat.reduceEqDiff]
            omega
        · have hc := hc2
          refine Run.exit ?_
          show Run _ _ _ _ _ _
          have hk9 : (k < zs.length) = True := eq_true (by omega)
          have hk8 : (k < out.length + 1) = True := eq_true (by omega)
          have hzk : (zs.map Item.pv)[k]? = some (.agg [.int .i64 (at0 zs k).tick, .int .i64 (at0 zs k).order, .int .i64 (at0 zs k).key]) := map_at0 (by omega)
          refine Run.region ?_
          refine RunO.all (by simp only [go_sem, ↓reduceIte, Nat.reduceEqDiff, Nat.reduceLT, Nat.reduceLeDiff, Nat.reduceAdd, Int.natCast_nonneg, Int.ofNat_lt, List.length_map, decide_true, decide_false, ne_eq, not_true_eq_false, not_false_eq_true, Int.lt_irrefl, Int.le_refl, Nat.lt_add_one, Nat.le_refl, hx, hwq, hL1, hX2, hLX, hXL, hd2, hws, hkl, hk9, hk7, hxp, hk9, hk8, hzk] <;> rfl) ?_
          refine RunO.live' [1, 6, 7, 11, 12, 13] (by simp only [go_sem, ↓reduceIte, Nat.reduceEqDiff, Nat.reduceLT, Nat.reduceLeDiff, Nat.reduceAdd, Int.natCast_nonneg, Int.ofNat_lt, List.length_map, decide_true, decide_false, ne_eq, not_true_eq_false, not_false_eq_true, Int.lt_irrefl, Int.le_refl, Nat.lt_add_one, Nat.le_refl, hx, hwq, hL1, hX2, hLX, hXL, hd2, hws, hkl, hk9, hk7, hxp, hk9, hk8, hzk] <;> rfl) ?_
          refine Run.blk ?_
          refine Run.region ?_
          refine RunO.all (by simp only [go_sem, ↓reduceIte, Nat.reduceEqDiff, Nat.reduceLT, Nat.reduceLeDiff, Nat.reduceAdd, Int.natCast_nonneg, Int.ofNat_lt, List.length_map, decide_true, decide_false, ne_eq, not_true_eq_false, not_false_eq_true, Int.lt_irrefl, Int.le_refl, Nat.lt_add_one, Nat.le_refl, hx, hwq, hL1, hX2, hLX, hXL, hd2, hws, hkl, hk9, hk7, hxp, hk9, hk8, hzk] <;> rfl) ?_
          refine RunO.live' [1, 6, 7, 11, 12, 13] (by simp only [go_sem, ↓reduceIte, Nat.reduceEqDiff, Nat.reduceLT, Nat.reduceLeDiff, Nat.reduceAdd, Int.natCast_nonneg, Int.ofNat_lt, List.length_map, decide_true, decide_false, ne_eq, not_true_eq_false, not_false_eq_true, Int.lt_irrefl, Int.le_refl, Nat.lt_add_one, Nat.le_refl, hx, hwq, hL1, hX2, hLX, hXL, hd2, hws, hkl, hk9, hk7, hxp, hk9, hk8, hzk] <;> rfl) ?_
          have ht : (at0 l q).tick ≤ now := by have := of_decide_eq_false hc1; omega
          have hfin : k = 0 ∨ (at0 l q).lt (at0 out (k - 1)) = false := by
            first
              | exact .inr hc2
              | (refine .inl ?_
                 have := of_decide_eq_false hd2
                 omega)
          have he := ins_eq (x := at0 l q) hzl0 hkn hz1 hz2
          have hfr3 : ∀ i, i < s1.nxt → (∀ z n, v ≠ .own i z n) → (s2.set Lo (some (.row 37 ((zs.set k (at0 l q)).map Item.pv)))).blk i = s1.blk i := fun i hi hv => by
            rw [blk_set, if_neg (by omega), fr2 i (by omega) hv, blk_new, if_neg (by omega)]
          rw [set_set', show (zs.map Item.pv).set k (.agg [.int .i64 (at0 l q).tick, .int .i64 (at0 l q).order, .int .i64 (at0 l q).key]) = (zs.set k (at0 l q)).map Item.pv by rw [List.map_set]; rfl]
          refine Run.lp ⟨⟨q + 1, out.take k ++ at0 l q :: out.drop k, left, .own Lo 0 (out.length + 1), kk, rfl, ?_, ?_, ?_, fun t z e => ?_, by omega, ?_, ?_, ins_sorted hsort hkn hz3 hfin, ?_, fun i hi => ?_⟩, ?_⟩
          · intro i hi
            rw [nxt_set] at hi
            rw [blk_set, if_neg (by omega)]
            exact wf2 (new_wf wf1 _) i hi
          · refine .inr ⟨Lo, (zs.set k (at0 l q)).map Item.pv, ?_, by omega, ?_, ?_, ?_⟩
            · rw [← he]; simp [hzl0]
            · rw [blk_set, if_pos rfl]
            · rw [← he]; exact Nat.le_refl _
            · rw [← he]; exact List.take_length
          · refine hgr.mono fun t ht => hfr3 t (htk t 3 ht).2 fun z n e => ?_
            rcases hrow with ⟨h, _⟩ | ⟨L', zs, h1, h2, h3, _⟩
            · rw [e] at h; cases h
            · rw [e] at h1; cases h1
              exact hgr.ne ht t h3 (by simp) rfl
          · have := htk t z e
            rw [nxt_set]
            omega
          · rw [filter_snoc hqo, if_pos (by simpa using ht)]
            exact (ins_perm out (at0 l q) k).trans (hperm.append_right _)
          · rw [filter_snoc hqo, if_neg (by simp; omega), List.append_nil, hleft]
          · rw [nxt_set]; omega
          · rw [hfr3 i (by omega) (fun z n e => by have := (hrow.lt wf1 e).1; omega)]
            exact hfr i hi
          · simp only [ivar, go_sem, ↓reduceIte, Nat.reduceEqDiff]
            omega
  · have hc := hc0
    refine Run.exit ?_
    show Run _ _ _ _ _ _
    refine Run.seq ?_
    refine Run.region ?_
    refine RunO.all (by simp only [go_sem, ↓reduceIte, Nat.reduceEqDiff, Nat.reduceLT, Nat.reduceLeDiff, Nat.reduceAdd, Int.natCast_nonneg, Int.ofNat_lt, List.length_map, decide_true, decide_false, ne_eq, not_true_eq_false, not_false_eq_true, Int.lt_irrefl, Int.le_refl, Nat.lt_add_one, Nat.le_refl] <;> rfl) ?_
    refine RunO.live' [4, 5] (by simp only [go_sem, ↓reduceIte, Nat.reduceEqDiff, Nat.reduceLT, Nat.reduceLeDiff, Nat.reduceAdd, Int.natCast_nonneg, Int.ofNat_lt, List.length_map, decide_true, decide_false, ne_eq, not_true_eq_false, not_false_eq_true, Int.lt_irrefl, Int.le_refl, Nat.lt_add_one, Nat.le_refl] <;> rfl) ?_
    refine Run.ret ?_
    obtain rfl : q = l.length := by have := of_decide_eq_false hc0; omega
    rw [List.take_length] at hperm hleft
    have hq2 : ∀ L z n, v = .own L z n → (decide (L < s.nxt) || kk.isTok L) = false := fun L z n e => by
      have h1 := hrow.lt wf1 e
      simp only [Bool.or_eq_false_iff, decide_eq_false_iff_not]
      refine ⟨by omega, ?_⟩
      rcases hrow with ⟨h, _⟩ | ⟨L', zs, h1, h2, h3, _⟩
      · rw [e] at h; cases h
      · rw [e] at h1; cases h1
        cases kk with
        | tok t z => simp only [SK.isTok, beq_eq_false_iff_ne]; exact hgr.ne rfl L h3 (by simp)
        | _ => rfl
    refine Ret.tokF (r' := .tuple [.sl .unk (out.map Item.pv), .sl kk (left.map Item.pv)]) 3 (by simp only [Try.f18, go_sem] <;> rfl) ?_ ?_ wf1 hnx hfr hgr (fun s' h1 h2 h3 => ⟨out, kk, by rw [hleft], hperm, hsort, by rw [← hleft]; exact h3, fun t z e => by rw [h1]; exact htk t z e, by omega, h2⟩)
    · show ∀ g w u, R g w (PV.tuple [PV.frz _ _ _ 2 v, .sl kk ((left.map Item.pv).map (PV.frz _ _ _ 1))]) u → _
      have := (hrow.out (wk := false) (q := fun i => decide (i < s.nxt) || kk.isTok i) hq2 1 s1.nxt (by rw [frz_items]; exact blws_map Item.pv _ (fun a => by simp [Item.pv, PV.blw, PV.blws]) _)).2
      rw [frz_items] at this ⊢
      exact R_tuple2 this (fun _ _ _ h => h)
    · show PV.blw _ (PV.tuple [PV.frz _ _ _ 2 v, .sl kk ((left.map Item.pv).map (PV.frz _ _ _ 1))])
      have := (hrow.out (wk := false) (q := fun i => decide (i < s.nxt) || kk.isTok i) hq2 1 s1.nxt (by rw [frz_items]; exact blws_map Item.pv _ (fun a => by simp [Item.pv, PV.blw, PV.blws]) _)).1
      rw [frz_items]
      simp only [PV.blw, PV.blws, and_true]
      exact ⟨this, fun t z e => (htk t z e).2, blws_map Item.pv _ (fun a => by simp [Item.pv, PV.blw, PV.blws]) _⟩

end Go.Proofs
