import Derived.Test.YtegdcamfhldcoaaH10
namespace Go.Proofs
open Go.PM
set_option maxHeartbeats 2000000
set_option linter.unusedSimpArgs false
set_option linter.unusedVariables false

structure AskI where
  kind : Int
  t : Int
  key : Int

def AskI.pv (a : AskI) : PV := .agg [.int .i64 a.kind, .int .i64 a.t, .int .i64 a.key]

theorem HoldAt.frame {s s' : St} (hwf : s.wf) {h : Nat} {xs : List Item} {next : Int} {L : Option Nat} (hH : HoldAt s h xs next L) (hf : ∀ i, i < s.nxt → s'.blk i = s.blk i) : HoldAt s' h xs next L :=
  hH.keep (hf _ (hH.lt hwf)) fun l e => hf l (hH.list_lt hwf e)

structure PInv (s : St) (h : Nat) (xs w : List Item) (L : Option Nat) (kw : SK) (o : Nat) : Prop where
  wf : s.wf
  hold : HoldAt s h xs o L
  perm : xs.Perm w
  grow : Grows s kw w.length 3
  tok : ∀ t z, kw = .tok t z → t < s.nxt
  nd : (w.map Item.order).Nodup
  lo : ∀ a ∈ w, a.order < o
  tk : ∀ a ∈ w, a.tick ≤ 9223372036854775807

theorem nodup_perm_filter {w out : List Item} {f : Item → Bool} (h : (w.map Item.order).Nodup) (p : out.Perm (w.filter f)) : (out.map Item.order).Nodup :=
  ((p.map Item.order).nodup_iff).2 (List.Sublist.nodup (List.filter_sublist.map Item.order) h)

theorem PInv.new {s : St} {h : Nat} {xs w : List Item} {L : Option Nat} {kw : SK} {o : Nat} (p : PInv s h xs w L kw o) (b : Blk) : PInv (s.new b) h xs w L kw o where
  wf := new_wf p.wf _
  hold := p.hold.new p.wf _
  perm := p.perm
  grow := p.grow.mono fun t ht => by rw [blk_new, if_neg (by have := p.tok t 3 ht; omega)]
  tok := fun t z e => by have := p.tok t z e; rw [nxt_new]; omega
  nd := p.nd
  lo := p.lo
  tk := p.tk

theorem PInv.frame {s s' : St} {h : Nat} {xs w : List Item} {L : Option Nat} {kw : SK} {o : Nat} (p : PInv s h xs w L kw o) (hwf : s'.wf) (hn : s.nxt ≤ s'.nxt) (hf : ∀ i, i < s.nxt → s'.blk i = s.blk i) : PInv s' h xs w L kw o where
  wf := hwf
  hold := p.hold.frame p.wf hf
  perm := p.perm
  grow := p.grow.mono fun t ht => hf t (p.tok t 3 ht)
  tok := fun t z e => by have := p.tok t z e; omega
  nd := p.nd
  lo := p.lo
  tk := p.tk

/-- the hold moves, the list of what waits is another one -/
theorem PInv.move {s s' : St} {h : Nat} {xs xs' w w' : List Item} {L L' : Option Nat} {kw kw' : SK} {o : Nat} {f : Item → Bool} (p : PInv s h xs w L kw o) (hwf : s'.wf) (hA : HoldAt s' h xs' o L') (m : Moves s s' h L L') (hw : w' = w.filter f) (hp : xs'.Perm w') (hg : Grows s kw' w'.length 3)
    (ht : ∀ t z, kw' = .tok t z → t < s.nxt) : PInv s' h xs' w' L' kw' o where
  wf := hwf
  hold := hA
  perm := hp
  grow := hg.mono fun t e => m.rest t (ht t 3 e) (hg.hne p.hold e).1 (hg.hne p.hold e).2
  tok := fun t z e => Nat.lt_of_lt_of_le (ht t z e) m.nxt
  nd := by rw [hw]; exact List.Sublist.nodup (List.filter_sublist.map Item.order) p.nd
  lo := fun a ha => by rw [hw] at ha; exact p.lo a (List.mem_filter.1 ha).1
  tk := fun a ha => by rw [hw] at ha; exact p.tk a (List.mem_filter.1 ha).1

theorem PInv.tmove {s s' : St} {h n : Nat} {xs w : List Item} {L : Option Nat} {kw kk kk' : SK} {o : Nat} (p : PInv s h xs w L kw o) (hgr : Grows s kk n 3) (hd : ∀ t z t' z', kk = .tok t z → kw = .tok t' z' → t ≠ t') (m : TMoves s s' kk kk') : PInv s' h xs w L kw o where
  wf := m.wf p.wf
  hold := p.hold.tmove p.wf hgr m
  perm := p.perm
  grow := p.grow.mono fun t ht => m.rest t (p.tok t 3 ht) fun z e => hd t z t 3 e ht rfl
  tok := fun t z e => Nat.lt_of_lt_of_le (p.tok t z e) m.nxt
  nd := p.nd
  lo := p.lo
  tk := p.tk

/-- one more waits -/
theorem PInv.put {s s' : St} {h : Nat} {xs w : List Item} {L : Option Nat} {kw kw' : SK} {o : Nat} {t key : Int} (hwf : s.wf) (hA : HoldAt s h xs ((o : Int) + 1) L) (hp : xs.Perm (w ++ [⟨t, o, key⟩])) (hg : Grows s kw w.length 3) (ht : ∀ t z, kw = .tok t z → t < s.nxt)
    (m : TMoves s s' kw kw') (hg' : Grows s' kw' (w.length + 1) 3) (hnd : (w.map Item.order).Nodup) (hlo : ∀ a ∈ w, a.order < (o : Int)) (htk : ∀ a ∈ w, a.tick ≤ 9223372036854775807) (hmax : t ≤ 9223372036854775807) : PInv s' h xs (w ++ [⟨t, o, key⟩]) L kw' (o + 1) where
  wf := m.wf hwf
  hold := by
    have e : ((o + 1 : Nat) : Int) = (o : Int) + 1 := by omega
    rw [e]
    exact hA.tmove hwf hg m
  perm := hp
  grow := by simpa using hg'
  tok := fun i z e => by
    have := m.nxt
    rcases m.fresh i z e with ⟨z', h⟩ | ⟨_, h⟩
    · have := ht i z' h; omega
    · exact h
  nd := by
    rw [List.map_append]
    refine List.nodup_append.2 ⟨hnd, by simp, fun a ha b hb => ?_⟩
    obtain ⟨x, hx, rfl⟩ := List.mem_map.1 ha
    have := hlo x hx
    simp at hb
    omega
  lo := fun a ha => by
    rcases List.mem_append.1 ha with h | h
    · have := hlo a h; omega
    · rw [List.mem_singleton.1 h]; simp; omega
  tk := fun a ha => by
    rcases List.mem_append.1 ha with h | h
    · exact htk a h
    · rw [List.mem_singleton.1 h]; exact hmax

set_option maxRecDepth 20000 in
theorem play_ {l : List AskI} (hfit : ∀ a ∈ l, a.t ≤ 9223372036854775807) {s : St} : ACalls Try.prog 8 [.sl .unk (l.map AskI.pv)] s (fun r s' => r = .bool true) := by
  refine ACalls.body Try.func8 rfl (by simp [Try.f8]) (by decide) fun hwf => ?_
  show Run _ _ [.code _] _ _ _
  refine Run.seq ?_
  refine Run.region ?_
  refine RunO.all (by simp only [go_sem, ↓reduceIte, Nat.reduceEqDiff, Nat.reduceLT, Nat.reduceLeDiff, Nat.reduceAdd, Int.natCast_nonneg, Int.ofNat_lt, List.length_map, decide_true, decide_false, ne_eq, not_true_eq_false, not_false_eq_true, weaks_items, Int.lt_irrefl, Int.le_refl] <;> rfl) ?_
  refine RunO.live' [0] (by simp only [go_sem, ↓reduceIte, Nat.reduceEqDiff, Nat.reduceLT, Nat.reduceLeDiff, Nat.reduceAdd, Int.natCast_nonneg, Int.ofNat_lt, List.length_map, decide_true, decide_false, ne_eq, not_true_eq_false, not_false_eq_true, weaks_items, Int.lt_irrefl, Int.le_refl] <;> rfl) ?_
  refine Run.seq ?_
  refine Run.region ?_
  refine RunO.callw (by simp only [go_sem, ↓reduceIte, Nat.reduceEqDiff, Nat.reduceLT, Nat.reduceLeDiff, Nat.reduceAdd, Int.natCast_nonneg, Int.ofNat_lt, List.length_map, decide_true, decide_false, ne_eq, not_true_eq_false, not_false_eq_true, weaks_items, Int.lt_irrefl, Int.le_refl] <;> rfl) (by simp only [go_sem, ↓reduceIte, Nat.reduceEqDiff, Nat.reduceLT, Nat.reduceLeDiff, Nat.reduceAdd, Int.natCast_nonneg, Int.ofNat_lt, List.length_map, decide_true, decide_false, ne_eq, not_true_eq_false, not_false_eq_true, weaks_items, Int.lt_irrefl, Int.le_refl] <;> rfl) (by simp only [go_sem, ↓reduceIte, Nat.reduceEqDiff, Nat.reduceLT, Nat.reduceLeDiff, Nat.reduceAdd, Int.natCast_nonneg, Int.ofNat_lt, List.length_map, decide_true, decide_false, ne_eq, not_true_eq_false, not_false_eq_true, weaks_items, Int.lt_irrefl, Int.le_refl] <;> rfl) (by kernel_rfl) ((hold_New.wf).mono ?_)
  rintro r1 s1 ⟨wf1, rfl, A1, nA, frA⟩
  refine RunO.all (by simp only [go_sem, ↓reduceIte, Nat.reduceEqDiff, Nat.reduceLT, Nat.reduceLeDiff, Nat.reduceAdd, Int.natCast_nonneg, Int.ofNat_lt, List.length_map, decide_true, decide_false, ne_eq, not_true_eq_false, not_false_eq_true, weaks_items, Int.lt_irrefl, Int.le_refl] <;> rfl) ?_
  refine RunO.live' [0, 3] (by simp only [go_sem, ↓reduceIte, Nat.reduceEqDiff, Nat.reduceLT, Nat.reduceLeDiff, Nat.reduceAdd, Int.natCast_nonneg, Int.ofNat_lt, List.length_map, decide_true, decide_false, ne_eq, not_true_eq_false, not_false_eq_true, weaks_items, Int.lt_irrefl, Int.le_refl] <;> rfl) ?_
  refine Run.seq ?_
  refine Run.region ?_
  refine RunO.all (by simp only [go_sem, ↓reduceIte, Nat.reduceEqDiff, Nat.reduceLT, Nat.reduceLeDiff, Nat.reduceAdd, Int.natCast_nonneg, Int.ofNat_lt, List.length_map, decide_true, decide_false, ne_eq, not_true_eq_false, not_false_eq_true, weaks_items, Int.lt_irrefl, Int.le_refl] <;> rfl) ?_
  refine RunO.live' [0, 3, 4] (by simp only [go_sem, ↓reduceIte, Nat.reduceEqDiff, Nat.reduceLT, Nat.reduceLeDiff, Nat.reduceAdd, Int.natCast_nonneg, Int.ofNat_lt, List.length_map, decide_true, decide_false, ne_eq, not_true_eq_false, not_false_eq_true, weaks_items, Int.lt_irrefl, Int.le_refl] <;> rfl) ?_
  refine Run.seq ?_
  refine Run.region ?_
  refine RunO.all (by simp only [go_sem, ↓reduceIte, Nat.reduceEqDiff, Nat.reduceLT, Nat.reduceLeDiff, Nat.reduceAdd, Int.natCast_nonneg, Int.ofNat_lt, List.length_map, decide_true, decide_false, ne_eq, not_true_eq_false, not_false_eq_true, weaks_items, Int.lt_irrefl, Int.le_refl] <;> rfl) ?_
  refine RunO.live' [0, 3, 4, 5] (by simp only [go_sem, ↓reduceIte, Nat.reduceEqDiff, Nat.reduceLT, Nat.reduceLeDiff, Nat.reduceAdd, Int.natCast_nonneg, Int.ofNat_lt, List.length_map, decide_true, decide_false, ne_eq, not_true_eq_false, not_false_eq_true, weaks_items, Int.lt_irrefl, Int.le_refl] <;> rfl) ?_
  refine Run.seq ?_
  refine Run.seq ?_
  refine Run.region ?_
  refine RunO.all (by simp only [go_sem, ↓reduceIte, Nat.reduceEqDiff, Nat.reduceLT, Nat.reduceLeDiff, Nat.reduceAdd, Int.natCast_nonneg, Int.ofNat_lt, List.length_map, decide_true, decide_false, ne_eq, not_true_eq_false, not_false_eq_true, weaks_items, Int.lt_irrefl, Int.le_refl] <;> rfl) ?_
  refine RunO.live' [0, 3, 4, 5, 6] (by simp only [go_sem, ↓reduceIte, Nat.reduceEqDiff, Nat.reduceLT, Nat.reduceLeDiff, Nat.reduceAdd, Int.natCast_nonneg, Int.ofNat_lt, List.length_map, decide_true, decide_false, ne_eq, not_true_eq_false, not_false_eq_true, weaks_items, Int.lt_irrefl, Int.le_refl] <;> rfl) ?_
  refine Run.block ?_
  -- loop 0, live [0, 3, 4, 5, 6]
  refine Run.loop (fun e s' => ∃ (i : Nat) (xs w : List Item) (L : Option Nat) (kw : SK) (o : Nat), e = [(0, .sl .unk (l.map AskI.pv)), (3, .ptr s.nxt 0 0), (4, .sl kw (w.map Item.pv)), (5, .int .i64 o), (6, .int .i64 i)] ∧ PInv s' s.nxt xs w L kw o ∧ w.length ≤ i ∧ o ≤ i ∧ i ≤ 120) (fun e s' => 120 - ivar e 6) ?_ ?_
  · exact ⟨0, [], [], none, .nil, 0, rfl, ⟨wf1, A1, .refl _, .inl ⟨rfl, rfl⟩, by simp, by simp, by simp, by simp⟩, by simp, by omega, by omega⟩
  rintro e s3 ⟨i, xs, w, L, kw, o, rfl, P3, hwl, hol, hi⟩
  refine Run.seq ?_
  refine Run.seq ?_
  refine Run.region ?_
  refine RunO.all (by simp only [go_sem, ↓reduceIte, Nat.reduceEqDiff, Nat.reduceLT, Nat.reduceLeDiff, Nat.reduceAdd, Int.natCast_nonneg, Int.ofNat_lt, List.length_map, decide_true, decide_false, ne_eq, not_true_eq_false, not_false_eq_true, weaks_items, Int.lt_irrefl, Int.le_refl] <;> rfl) ?_
  refine RunO.live' [0, 3, 4, 5, 6, 25] (by simp only [go_sem, ↓reduceIte, Nat.reduceEqDiff, Nat.reduceLT, Nat.reduceLeDiff, Nat.reduceAdd, Int.natCast_nonneg, Int.ofNat_lt, List.length_map, decide_true, decide_false, ne_eq, not_true_eq_false, not_false_eq_true, weaks_items, Int.lt_irrefl, Int.le_refl] <;> rfl) ?_
  refine Run.cond (by simp only [go_sem, ↓reduceIte, Nat.reduceEqDiff, Nat.reduceLT, Nat.reduceLeDiff, Nat.reduceAdd, Int.natCast_nonneg, Int.ofNat_lt, List.length_map, decide_true, decide_false, ne_eq, not_true_eq_false, not_false_eq_true, weaks_items, Int.lt_irrefl, Int.le_refl] <;> rfl) (fun hc0 => ?_) (fun hc0 => ?_)
  · have hc := hc0
    refine Run.skip ?_
    refine Run.seq ?_
    refine Run.block ?_
    refine Run.seq ?_
    have hil : i < l.length ∧ i < 120 := by simp at hc0; omega
    obtain ⟨a, ha⟩ : ∃ a, l[i]'hil.1 = a := ⟨_, rfl⟩
    have hx : (l.map AskI.pv)[i]? = some (.agg [.int .i64 a.kind, .int .i64 a.t, .int .i64 a.key]) := by rw [List.getElem?_map, List.getElem?_eq_getElem hil.1, ha]; rfl
    have hw : IntKind.i64.wrap ((i : Int) + 1) = ((i + 1 : Nat) : Int) := by rw [wrap_i64 (by omega)]; omega
    have hat : a.t ≤ 9223372036854775807 := by rw [← ha]; exact hfit _ (List.getElem_mem _)
    have hxw := P3.perm.length_eq
    have P4 := P3.new (.row 24 [.agg [.int .i64 a.kind, .int .i64 a.t, .int .i64 a.key]])
    have hX4 : (s3.new (.row 24 [.agg [.int .i64 a.kind, .int .i64 a.t, .int .i64 a.key]])).blk s3.nxt = some (.row 24 [.agg [.int .i64 a.kind, .int .i64 a.t, .int .i64 a.key]]) := by rw [blk_new, if_pos rfl]
    refine Run.region ?_
    refine RunO.all (by simp only [go_sem, ↓reduceIte, Nat.reduceEqDiff, Nat.reduceLT, Nat.reduceLeDiff, Nat.reduceAdd, Int.natCast_nonneg, Int.ofNat_lt, List.length_map, decide_true, decide_false, ne_eq, not_true_eq_false, not_false_eq_true, weaks_items, Int.lt_irrefl, Int.le_refl, hx, hw] <;> rfl) ?_
    refine RunO.live' [0, 3, 4, 5, 6, 7] (by simp only [go_sem, ↓reduceIte, Nat.reduceEqDiff, Nat.reduceLT, Nat.reduceLeDiff, Nat.reduceAdd, Int.natCast_nonneg, Int.ofNat_lt, List.length_map, decide_true, decide_false, ne_eq, not_true_eq_false, not_false_eq_true, weaks_items, Int.lt_irrefl, Int.le_refl, hx, hw] <;> rfl) ?_
    refine Run.seq ?_
    refine Run.seq ?_
    refine Run.region ?_
    refine RunO.all (by simp only [go_sem, ↓reduceIte, Nat.reduceEqDiff, Nat.reduceLT, Nat.reduceLeDiff, Nat.reduceAdd, Int.natCast_nonneg, Int.ofNat_lt, List.length_map, decide_true, decide_false, ne_eq, not_true_eq_false, not_false_eq_true, weaks_items, Int.lt_irrefl, Int.le_refl, hx, hw] <;> rfl) ?_
    refine RunO.live' [0, 3, 4, 5, 6, 7, 33] (by simp only [go_sem, ↓reduceIte, Nat.reduceEqDiff, Nat.reduceLT, Nat.reduceLeDiff, Nat.reduceAdd, Int.natCast_nonneg, Int.ofNat_lt, List.length_map, decide_true, decide_false, ne_eq, not_true_eq_false, not_false_eq_true, weaks_items, Int.lt_irrefl, Int.le_refl, hx, hw] <;> rfl) ?_
    refine Run.cond (by simp only [go_sem, ↓reduceIte, Nat.reduceEqDiff, Nat.reduceLT, Nat.reduceLeDiff, Nat.reduceAdd, Int.natCast_nonneg, Int.ofNat_lt, List.length_map, decide_true, decide_false, ne_eq, not_true_eq_false, not_false_eq_true, weaks_items, Int.lt_irrefl, Int.le_refl, hx, hw] <;> rfl) (fun hc1 => ?_) (fun hc1 => ?_)
    · cases hc1
    · have hc := hc1
      refine Run.skip ?_
      refine Run.seq ?_
      refine Run.seq ?_
      refine Run.region ?_
      refine RunO.all (by simp only [go_sem, ↓reduceIte, Nat.reduceEqDiff, Nat.reduceLT, Nat.reduceLeDiff, Nat.reduceAdd, Int.natCast_nonneg, Int.ofNat_lt, List.length_map, decide_true, decide_false, ne_eq, not_true_eq_false, not_false_eq_true, weaks_items, Int.lt_irrefl, Int.le_refl, hx, hw] <;> rfl) ?_
      refine RunO.live' [0, 3, 4, 5, 6, 7, 35] (by simp only [go_sem, ↓reduceIte, Nat.reduceEqDiff, Nat.reduceLT, Nat.reduceLeDiff, Nat.reduceAdd, Int.natCast_nonneg, Int.ofNat_lt, List.length_map, decide_true, decide_false, ne_eq, not_true_eq_false, not_false_eq_true, weaks_items, Int.lt_irrefl, Int.le_refl, hx, hw] <;> rfl) ?_
      -- join ('b', 2), live [0, 3, 4, 5, 6]
      refine Run.join (fun e s' => ∃ (xs w : List Item) (L : Option Nat) (kw : SK) (o : Nat), e = [(0, .sl .unk (l.map AskI.pv)), (3, .ptr s.nxt 0 0), (4, .sl kw (w.map Item.pv)), (5, .int .i64 o), (6, .int .i64 i)] ∧ PInv s' s.nxt xs w L kw o ∧ w.length ≤ i + 1 ∧ o ≤ i + 1) ?_ ?_
      · rintro e s10 ⟨xs, w, L, kw, o, rfl, P10, hwl, hol⟩
        have hxw := P10.perm.length_eq
        refine Run.seq ?_
        refine Run.region ?_
        refine RunO.ops (pre := [_]) (by simp only [go_sem, ↓reduceIte, Nat.reduceEqDiff, Nat.reduceLT, Nat.reduceLeDiff, Nat.reduceAdd, Int.natCast_nonneg, Int.ofNat_lt, List.length_map, decide_true, decide_false, ne_eq, not_true_eq_false, not_false_eq_true, weaks_items, Int.lt_irrefl, Int.le_refl, hx, hw] <;> rfl) ?_
        refine RunO.callw (by simp only [go_sem, ↓reduceIte, Nat.reduceEqDiff, Nat.reduceLT, Nat.reduceLeDiff, Nat.reduceAdd, Int.natCast_nonneg, Int.ofNat_lt, List.length_map, decide_true, decide_false, ne_eq, not_true_eq_false, not_false_eq_true, weaks_items, Int.lt_irrefl, Int.le_refl, hx, hw] <;> rfl) (by simp only [go_sem, ↓reduceIte, Nat.reduceEqDiff, Nat.reduceLT, Nat.reduceLeDiff, Nat.reduceAdd, Int.natCast_nonneg, Int.ofNat_lt, List.length_map, decide_true, decide_false, ne_eq, not_true_eq_false, not_false_eq_true, weaks_items, Int.lt_irrefl, Int.le_refl, hx, hw] <;> rfl) (by simp only [go_sem, ↓reduceIte, Nat.reduceEqDiff, Nat.reduceLT, Nat.reduceLeDiff, Nat.reduceAdd, Int.natCast_nonneg, Int.ofNat_lt, List.length_map, decide_true, decide_false, ne_eq, not_true_eq_false, not_false_eq_true, weaks_items, Int.lt_irrefl, Int.le_refl, hx, hw] <;> rfl) (by kernel_rfl) (((due_ (l := w) (by omega)).wf).mono ?_)
        rintro r11 s11 ⟨wf11, all, kk, rfl, p11, q11, g11, t11, n11, f11⟩
        have P11 := P10.frame wf11 n11 f11
        have hall : all.Perm w := due_all p11 P11.tk
        refine RunO.all (by simp only [go_sem, ↓reduceIte, Nat.reduceEqDiff, Nat.reduceLT, Nat.reduceLeDiff, Nat.reduceAdd, Int.natCast_nonneg, Int.ofNat_lt, List.length_map, decide_true, decide_false, ne_eq, not_true_eq_false, not_false_eq_true, weaks_items, Int.lt_irrefl, Int.le_refl, hx, hw] <;> rfl) ?_
        refine RunO.live' [0, 3, 4, 5, 6, 13] (by simp only [go_sem, ↓reduceIte, Nat.reduceEqDiff, Nat.reduceLT, Nat.reduceLeDiff, Nat.reduceAdd, Int.natCast_nonneg, Int.ofNat_lt, List.length_map, decide_true, decide_false, ne_eq, not_true_eq_false, not_false_eq_true, weaks_items, Int.lt_irrefl, Int.le_refl, hx, hw] <;> rfl) ?_
        refine Run.seq ?_
        refine Run.region ?_
        refine RunO.ops (pre := [_]) (by simp only [go_sem, ↓reduceIte, Nat.reduceEqDiff, Nat.reduceLT, Nat.reduceLeDiff, Nat.reduceAdd, Int.natCast_nonneg, Int.ofNat_lt, List.length_map, decide_true, decide_false, ne_eq, not_true_eq_false, not_false_eq_true, weaks_items, Int.lt_irrefl, Int.le_refl, hx, hw] <;> rfl) ?_
        refine RunO.callw (by simp only [go_sem, ↓reduceIte, Nat.reduceEqDiff, Nat.reduceLT, Nat.reduceLeDiff, Nat.reduceAdd, Int.natCast_nonneg, Int.ofNat_lt, List.length_map, decide_true, decide_false, ne_eq, not_true_eq_false, not_false_eq_true, weaks_items, Int.lt_irrefl, Int.le_refl, hx, hw] <;> rfl) (by simp only [go_sem, ↓reduceIte, Nat.reduceEqDiff, Nat.reduceLT, Nat.reduceLeDiff, Nat.reduceAdd, Int.natCast_nonneg, Int.ofNat_lt, List.length_map, decide_true, decide_false, ne_eq, not_true_eq_false, not_false_eq_true, weaks_items, Int.lt_irrefl, Int.le_refl, hx, hw] <;> rfl) (by simp only [go_sem, ↓reduceIte, Nat.reduceEqDiff, Nat.reduceLT, Nat.reduceLeDiff, Nat.reduceAdd, Int.natCast_nonneg, Int.ofNat_lt, List.length_map, decide_true, decide_false, ne_eq, not_true_eq_false, not_false_eq_true, weaks_items, Int.lt_irrefl, Int.le_refl, hx, hw] <;> rfl) (by kernel_rfl) (((hold_First P11.hold).wf).mono ?_)
        rintro r12 s12 ⟨wf12, hs, x, hr12, hx12⟩
        subst s12
        have hok : decide (xs ≠ []) = decide ((0 : Int) < (w.length : Int)) := by
          rw [← P11.perm.length_eq]
          cases xs with
          | nil => rfl
          | cons y ys => simp
        obtain rfl : r12 = .tuple [.agg [.int .i64 (x).tick, .int .i64 (x).order, .int .i64 (x).key], .bool (decide ((0 : Int) < (w.length : Int)))] := by rw [hr12, hok]; rfl
        refine RunO.all (by simp only [go_sem, ↓reduceIte, Nat.reduceEqDiff, Nat.reduceLT, Nat.reduceLeDiff, Nat.reduceAdd, Int.natCast_nonneg, Int.ofNat_lt, List.length_map, decide_true, decide_false, ne_eq, not_true_eq_false, not_false_eq_true, weaks_items, Int.lt_irrefl, Int.le_refl, hx, hw] <;> rfl) ?_
        refine RunO.live' [0, 3, 4, 5, 6, 13, 15, 16] (by simp only [go_sem, ↓reduceIte, Nat.reduceEqDiff, Nat.reduceLT, Nat.reduceLeDiff, Nat.reduceAdd, Int.natCast_nonneg, Int.ofNat_lt, List.length_map, decide_true, decide_false, ne_eq, not_true_eq_false, not_false_eq_true, weaks_items, Int.lt_irrefl, Int.le_refl, hx, hw] <;> rfl) ?_
        refine Run.seq ?_
        have hxw2 : (xs.length : Int) = (w.length : Int) := by omega
        refine Run.drawC [] [0, 3, 4, 5, 6, 132] Try.mixed (by kernel_rfl) ?_
        refine DetC.pre (pre := [_]) (by simp only [go_sem, ↓reduceIte, Nat.reduceEqDiff, Nat.reduceLT, Nat.reduceLeDiff, Nat.reduceAdd, Int.natCast_nonneg, Int.ofNat_lt, List.length_map, decide_true, decide_false, ne_eq, not_true_eq_false, not_false_eq_true, weaks_items, Int.lt_irrefl, Int.le_refl, hx, hw, hxw2] <;> rfl) ?_
        refine DetC.call (by simp only [go_sem, ↓reduceIte, Nat.reduceEqDiff, Nat.reduceLT, Nat.reduceLeDiff, Nat.reduceAdd, Int.natCast_nonneg, Int.ofNat_lt, List.length_map, decide_true, decide_false, ne_eq, not_true_eq_false, not_false_eq_true, weaks_items, Int.lt_irrefl, Int.le_refl, hx, hw, hxw2] <;> rfl) (by simp only [go_sem, ↓reduceIte, Nat.reduceEqDiff, Nat.reduceLT, Nat.reduceLeDiff, Nat.reduceAdd, Int.natCast_nonneg, Int.ofNat_lt, List.length_map, decide_true, decide_false, ne_eq, not_true_eq_false, not_false_eq_true, weaks_items, Int.lt_irrefl, Int.le_refl, hx, hw, hxw2] <;> rfl) (by simp only [go_sem, ↓reduceIte, Nat.reduceEqDiff, Nat.reduceLT, Nat.reduceLeDiff, Nat.reduceAdd, Int.natCast_nonneg, Int.ofNat_lt, List.length_map, decide_true, decide_false, ne_eq, not_true_eq_false, not_false_eq_true, weaks_items, Int.lt_irrefl, Int.le_refl, hx, hw, hxw2] <;> rfl) (by kernel_rfl) (hold_Len (P11.new _).hold) ?_
        refine DetC.pre (pre := [_, _, _, _]) (by simp only [go_sem, ↓reduceIte, Nat.reduceEqDiff, Nat.reduceLT, Nat.reduceLeDiff, Nat.reduceAdd, Int.natCast_nonneg, Int.ofNat_lt, List.length_map, decide_true, decide_false, ne_eq, not_true_eq_false, not_false_eq_true, weaks_items, Int.lt_irrefl, Int.le_refl, hx, hw, hxw2] <;> rfl) ?_
        refine DetC.gdo (by simp only [go_sem, ↓reduceIte, Nat.reduceEqDiff, Nat.reduceLT, Nat.reduceLeDiff, Nat.reduceAdd, Int.natCast_nonneg, Int.ofNat_lt, List.length_map, decide_true, decide_false, ne_eq, not_true_eq_false, not_false_eq_true, weaks_items, Int.lt_irrefl, Int.le_refl, hx, hw, hxw2] <;> rfl) (by simp only [go_sem, ↓reduceIte, Nat.reduceEqDiff, Nat.reduceLT, Nat.reduceLeDiff, Nat.reduceAdd, Int.natCast_nonneg, Int.ofNat_lt, List.length_map, decide_true, decide_false, ne_eq, not_true_eq_false, not_false_eq_true, weaks_items, Int.lt_irrefl, Int.le_refl, hx, hw, hxw2] <;> rfl) ?_
        refine DetC.gdo (by simp only [go_sem, ↓reduceIte, Nat.reduceEqDiff, Nat.reduceLT, Nat.reduceLeDiff, Nat.reduceAdd, Int.natCast_nonneg, Int.ofNat_lt, List.length_map, decide_true, decide_false, ne_eq, not_true_eq_false, not_false_eq_true, weaks_items, Int.lt_irrefl, Int.le_refl, hx, hw, hxw2] <;> rfl) (by simp only [go_sem, ↓reduceIte, Nat.reduceEqDiff, Nat.reduceLT, Nat.reduceLeDiff, Nat.reduceAdd, Int.natCast_nonneg, Int.ofNat_lt, List.length_map, decide_true, decide_false, ne_eq, not_true_eq_false, not_false_eq_true, weaks_items, Int.lt_irrefl, Int.le_refl, hx, hw, hxw2] <;> rfl) ?_
        refine DetC.gdo (by simp only [go_sem, ↓reduceIte, Nat.reduceEqDiff, Nat.reduceLT, Nat.reduceLeDiff, Nat.reduceAdd, Int.natCast_nonneg, Int.ofNat_lt, List.length_map, decide_true, decide_false, ne_eq, not_true_eq_false, not_false_eq_true, weaks_items, Int.lt_irrefl, Int.le_refl, hx, hw, hxw2] <;> rfl) (by simp only [go_sem, ↓reduceIte, Nat.reduceEqDiff, Nat.reduceLT, Nat.reduceLeDiff, Nat.reduceAdd, Int.natCast_nonneg, Int.ofNat_lt, List.length_map, decide_true, decide_false, ne_eq, not_true_eq_false, not_false_eq_true, weaks_items, Int.lt_irrefl, Int.le_refl, hx, hw, hxw2] <;> rfl) ?_
        refine DetC.gdo (by simp only [go_sem, ↓reduceIte, Nat.reduceEqDiff, Nat.reduceLT, Nat.reduceLeDiff, Nat.reduceAdd, Int.natCast_nonneg, Int.ofNat_lt, List.length_map, decide_true, decide_false, ne_eq, not_true_eq_false, not_false_eq_true, weaks_items, Int.lt_irrefl, Int.le_refl, hx, hw, hxw2] <;> rfl) (by simp only [go_sem, ↓reduceIte, Nat.reduceEqDiff, Nat.reduceLT, Nat.reduceLeDiff, Nat.reduceAdd, Int.natCast_nonneg, Int.ofNat_lt, List.length_map, decide_true, decide_false, ne_eq, not_true_eq_false, not_false_eq_true, weaks_items, Int.lt_irrefl, Int.le_refl, hx, hw, hxw2] <;> rfl) ?_
        refine DetC.gdo (by simp only [go_sem, ↓reduceIte, Nat.reduceEqDiff, Nat.reduceLT, Nat.reduceLeDiff, Nat.reduceAdd, Int.natCast_nonneg, Int.ofNat_lt, List.length_map, decide_true, decide_false, ne_eq, not_true_eq_false, not_false_eq_true, weaks_items, Int.lt_irrefl, Int.le_refl, hx, hw, hxw2] <;> rfl) (by simp only [go_sem, ↓reduceIte, Nat.reduceEqDiff, Nat.reduceLT, Nat.reduceLeDiff, Nat.reduceAdd, Int.natCast_nonneg, Int.ofNat_lt, List.length_map, decide_true, decide_false, ne_eq, not_true_eq_false, not_false_eq_true, weaks_items, Int.lt_irrefl, Int.le_refl, hx, hw, hxw2] <;> rfl) ?_
        refine DetC.pre (pre := [_, _]) (by simp only [go_sem, ↓reduceIte, Nat.reduceEqDiff, Nat.reduceLT, Nat.reduceLeDiff, Nat.reduceAdd, Int.natCast_nonneg, Int.ofNat_lt, List.length_map, decide_true, decide_false, ne_eq, not_true_eq_false, not_false_eq_true, weaks_items, Int.lt_irrefl, Int.le_refl, hx, hw, hxw2] <;> rfl) ?_
        refine DetC.gdo (by simp only [go_sem, ↓reduceIte, Nat.reduceEqDiff, Nat.reduceLT, Nat.reduceLeDiff, Nat.reduceAdd, Int.natCast_nonneg, Int.ofNat_lt, List.length_map, decide_true, decide_false, ne_eq, not_true_eq_false, not_false_eq_true, weaks_items, Int.lt_irrefl, Int.le_refl, hx, hw, hxw2] <;> rfl) (by simp only [go_sem, ↓reduceIte, Nat.reduceEqDiff, Nat.reduceLT, Nat.reduceLeDiff, Nat.reduceAdd, Int.natCast_nonneg, Int.ofNat_lt, List.length_map, decide_true, decide_false, ne_eq, not_true_eq_false, not_false_eq_true, weaks_items, Int.lt_irrefl, Int.le_refl, hx, hw, hxw2] <;> rfl) ?_
        refine DetC.gdo (by simp only [go_sem, ↓reduceIte, Nat.reduceEqDiff, Nat.reduceLT, Nat.reduceLeDiff, Nat.reduceAdd, Int.natCast_nonneg, Int.ofNat_lt, List.length_map, decide_true, decide_false, ne_eq, not_true_eq_false, not_false_eq_true, weaks_items, Int.lt_irrefl, Int.le_refl, hx, hw, hxw2] <;> rfl) (by simp only [go_sem, ↓reduceIte, Nat.reduceEqDiff, Nat.reduceLT, Nat.reduceLeDiff, Nat.reduceAdd, Int.natCast_nonneg, Int.ofNat_lt, List.length_map, decide_true, decide_false, ne_eq, not_true_eq_false, not_false_eq_true, weaks_items, Int.lt_irrefl, Int.le_refl, hx, hw, hxw2] <;> rfl) ?_
        rcases hd14 : (decide ((0 : Int) < (w.length : Int))) with _ | _
        · refine DetC.gskip' (by simp only [go_sem, ↓reduceIte, Nat.reduceEqDiff, Nat.reduceLT, Nat.reduceLeDiff, Nat.reduceAdd, Int.natCast_nonneg, Int.ofNat_lt, List.length_map, decide_true, decide_false, ne_eq, not_true_eq_false, not_false_eq_true, weaks_items, Int.lt_irrefl, Int.le_refl, hx, hw, hxw2, hd14] <;> rfl) ?_
          refine DetC.gskip' (by simp only [go_sem, ↓reduceIte, Nat.reduceEqDiff, Nat.reduceLT, Nat.reduceLeDiff, Nat.reduceAdd, Int.natCast_nonneg, Int.ofNat_lt, List.length_map, decide_true, decide_false, ne_eq, not_true_eq_false, not_false_eq_true, weaks_items, Int.lt_irrefl, Int.le_refl, hx, hw, hxw2, hd14] <;> rfl) ?_
          refine DetC.gskip' (by simp only [go_sem, ↓reduceIte, Nat.reduceEqDiff, Nat.reduceLT, Nat.reduceLeDiff, Nat.reduceAdd, Int.natCast_nonneg, Int.ofNat_lt, List.length_map, decide_true, decide_false, ne_eq, not_true_eq_false, not_false_eq_true, weaks_items, Int.lt_irrefl, Int.le_refl, hx, hw, hxw2, hd14] <;> rfl) ?_
          refine DetC.gskip' (by simp only [go_sem, ↓reduceIte, Nat.reduceEqDiff, Nat.reduceLT, Nat.reduceLeDiff, Nat.reduceAdd, Int.natCast_nonneg, Int.ofNat_lt, List.length_map, decide_true, decide_false, ne_eq, not_true_eq_false, not_false_eq_true, weaks_items, Int.lt_irrefl, Int.le_refl, hx, hw, hxw2, hd14] <;> rfl) ?_
          refine DetC.gskip' (by simp only [go_sem, ↓reduceIte, Nat.reduceEqDiff, Nat.reduceLT, Nat.reduceLeDiff, Nat.reduceAdd, Int.natCast_nonneg, Int.ofNat_lt, List.length_map, decide_true, decide_false, ne_eq, not_true_eq_false, not_false_eq_true, weaks_items, Int.lt_irrefl, Int.le_refl, hx, hw, hxw2, hd14] <;> rfl) ?_
          refine DetC.gdo (by simp only [go_sem, ↓reduceIte, Nat.reduceEqDiff, Nat.reduceLT, Nat.reduceLeDiff, Nat.reduceAdd, Int.natCast_nonneg, Int.ofNat_lt, List.length_map, decide_true, decide_false, ne_eq, not_true_eq_false, not_false_eq_true, weaks_items, Int.lt_irrefl, Int.le_refl, hx, hw, hxw2, hd14] <;> rfl) (by simp only [go_sem, ↓reduceIte, Nat.reduceEqDiff, Nat.reduceLT, Nat.reduceLeDiff, Nat.reduceAdd, Int.natCast_nonneg, Int.ofNat_lt, List.length_map, decide_true, decide_false, ne_eq, not_true_eq_false, not_false_eq_true, weaks_items, Int.lt_irrefl, Int.le_refl, hx, hw, hxw2, hd14] <;> rfl) ?_
          refine DetC.all (by simp only [go_sem, ↓reduceIte, Nat.reduceEqDiff, Nat.reduceLT, Nat.reduceLeDiff, Nat.reduceAdd, Int.natCast_nonneg, Int.ofNat_lt, List.length_map, decide_true, decide_false, ne_eq, not_true_eq_false, not_false_eq_true, weaks_items, Int.lt_irrefl, Int.le_refl, hx, hw, hxw2, hd14] <;> rfl) ?_
          refine Run.envEq' (by simp only [go_sem, ↓reduceIte, Nat.reduceEqDiff, Nat.reduceLT, Nat.reduceLeDiff, Nat.reduceAdd, Int.natCast_nonneg, Int.ofNat_lt, List.length_map, decide_true, decide_false, ne_eq, not_true_eq_false, not_false_eq_true, weaks_items, Int.lt_irrefl, Int.le_refl, hx, hw, hxw2, hd14] <;> rfl) ?_
          refine Run.cond (by simp only [go_sem, ↓reduceIte, Nat.reduceEqDiff, Nat.reduceLT, Nat.reduceLeDiff, Nat.reduceAdd, Int.natCast_nonneg, Int.ofNat_lt, List.length_map, decide_true, decide_false, ne_eq, not_true_eq_false, not_false_eq_true, weaks_items, Int.lt_irrefl, Int.le_refl, hx, hw, hxw2, hd14] <;> rfl) (fun hc9 => ?_) (fun hc9 => ?_)
          · cases hc9
          · have hc := hc9
            refine Run.skip ?_
            refine Run.blk ?_
            refine Run.region ?_
            refine RunO.all (by simp only [go_sem, ↓reduceIte, Nat.reduceEqDiff, Nat.reduceLT, Nat.reduceLeDiff, Nat.reduceAdd, Int.natCast_nonneg, Int.ofNat_lt, List.length_map, decide_true, decide_false, ne_eq, not_true_eq_false, not_false_eq_true, weaks_items, Int.lt_irrefl, Int.le_refl, hx, hw, hxw2, hd14] <;> rfl) ?_
            refine RunO.live' [0, 3, 4, 5, 6] (by simp only [go_sem, ↓reduceIte, Nat.reduceEqDiff, Nat.reduceLT, Nat.reduceLeDiff, Nat.reduceAdd, Int.natCast_nonneg, Int.ofNat_lt, List.length_map, decide_true, decide_false, ne_eq, not_true_eq_false, not_false_eq_true, weaks_items, Int.lt_irrefl, Int.le_refl, hx, hw, hxw2, hd14] <;> rfl) ?_
            refine Run.lp ⟨⟨i + 1, xs, w, L, kw, o, rfl, P11.new _, hwl, hol, by omega⟩, ?_⟩
            simp only [ivar, go_sem, ↓reduceIte, Nat.reduceEqDiff]
            omega
        · have hw0 : 0 < w.length := by have := of_decide_eq_true hd14; omega
          have hal : 0 < all.length := by rw [hall.length_eq]; exact hw0
          have hxa : at0 all 0 = x := by
            rcases hx12 with ⟨h, _⟩ | ⟨h1, h2⟩
            · rw [h] at hxw; simp at hxw; omega
            · have e1 : (at0 all 0).lt x = false := h2 _ (P11.perm.symm.subset (hall.subset (at0_mem hal)))
              have e2 : x.lt (at0 all 0) = false := by
                have hxm := hall.symm.subset (P11.perm.subset h1)
                obtain ⟨j, hj, rfl⟩ := List.mem_iff_getElem.1 hxm
                have e : all[j] = at0 all j := by unfold at0; rw [List.getElem?_eq_getElem hj]; rfl
                rw [e]
                rcases Nat.eq_zero_or_pos j with h0 | h0
                · subst h0
                  simp [Item.lt]
                · exact at0_sorted q11 h0 hj
              have hxm := P11.perm.subset h1
              have ham := hall.subset (at0_mem hal)
              have ho := lt_total e1 e2
              obtain ⟨i1, hi1, h3⟩ := List.mem_iff_getElem.1 hxm
              obtain ⟨i2, hi2, h4⟩ := List.mem_iff_getElem.1 ham
              have hii : i1 = i2 := by
                have hp2 := List.pairwise_iff_getElem.1 P11.nd
                rcases Nat.lt_trichotomy i1 i2 with h | h | h
                · exact absurd (by rw [List.getElem_map, List.getElem_map, h3, h4]; exact ho.symm) (hp2 i1 i2 (by simpa using hi1) (by simpa using hi2) h)
                · exact h
                · exact absurd (by rw [List.getElem_map, List.getElem_map, h3, h4]; exact ho) (hp2 i2 i1 (by simpa using hi2) (by simpa using hi1) h)
              subst hii
              rw [← h3, ← h4]
          have hxz : (all.map Item.pv)[0]? = some (.agg [.int .i64 (x).tick, .int .i64 (x).order, .int .i64 (x).key]) := by rw [map_at0 hal, hxa]; rfl
          have hal2 : ((0 : Int) < (all.length : Int)) = True := eq_true (by omega)
          refine DetC.gdo (by simp only [go_sem, ↓reduceIte, Nat.reduceEqDiff, Nat.reduceLT, Nat.reduceLeDiff, Nat.reduceAdd, Int.natCast_nonneg, Int.ofNat_lt, List.length_map, decide_true, decide_false, ne_eq, not_true_eq_false, not_false_eq_true, weaks_items, Int.lt_irrefl, Int.le_refl, hx, hw, hxw2, hd14, hxz, hal, hal2, Int.toNat_zero] <;> rfl) (by simp only [go_sem, ↓reduceIte, Nat.reduceEqDiff, Nat.reduceLT, Nat.reduceLeDiff, Nat.reduceAdd, Int.natCast_nonneg, Int.ofNat_lt, List.length_map, decide_true, decide_false, ne_eq, not_true_eq_false, not_false_eq_true, weaks_items, Int.lt_irrefl, Int.le_refl, hx, hw, hxw2, hd14, hxz, hal, hal2, Int.toNat_zero] <;> rfl) ?_
          refine DetC.gdo (by simp only [go_sem, ↓reduceIte, Nat.reduceEqDiff, Nat.reduceLT, Nat.reduceLeDiff, Nat.reduceAdd, Int.natCast_nonneg, Int.ofNat_lt, List.length_map, decide_true, decide_false, ne_eq, not_true_eq_false, not_false_eq_true, weaks_items, Int.lt_irrefl, Int.le_refl, hx, hw, hxw2, hd14, hxz, hal, hal2, Int.toNat_zero] <;> rfl) (by simp only [go_sem, ↓reduceIte, Nat.reduceEqDiff, Nat.reduceLT, Nat.reduceLeDiff, Nat.reduceAdd, Int.natCast_nonneg, Int.ofNat_lt, List.length_map, decide_true, decide_false, ne_eq, not_true_eq_false, not_false_eq_true, weaks_items, Int.lt_irrefl, Int.le_refl, hx, hw, hxw2, hd14, hxz, hal, hal2, Int.toNat_zero] <;> rfl) ?_
          refine DetC.gdo (by simp only [go_sem, ↓reduceIte, Nat.reduceEqDiff, Nat.reduceLT, Nat.reduceLeDiff, Nat.reduceAdd, Int.natCast_nonneg, Int.ofNat_lt, List.length_map, decide_true, decide_false, ne_eq, not_true_eq_false, not_false_eq_true, weaks_items, Int.lt_irrefl, Int.le_refl, hx, hw, hxw2, hd14, hxz, hal, hal2, Int.toNat_zero] <;> rfl) (by simp only [go_sem, ↓reduceIte, Nat.reduceEqDiff, Nat.reduceLT, Nat.reduceLeDiff, Nat.reduceAdd, Int.natCast_nonneg, Int.ofNat_lt, List.length_map, decide_true, decide_false, ne_eq, not_true_eq_false, not_false_eq_true, weaks_items, Int.lt_irrefl, Int.le_refl, hx, hw, hxw2, hd14, hxz, hal, hal2, Int.toNat_zero] <;> rfl) ?_
          refine DetC.gdo (by simp only [go_sem, ↓reduceIte, Nat.reduceEqDiff, Nat.reduceLT, Nat.reduceLeDiff, Nat.reduceAdd, Int.natCast_nonneg, Int.ofNat_lt, List.length_map, decide_true, decide_false, ne_eq, not_true_eq_false, not_false_eq_true, weaks_items, Int.lt_irrefl, Int.le_refl, hx, hw, hxw2, hd14, hxz, hal, hal2, Int.toNat_zero] <;> rfl) (by simp only [go_sem, ↓reduceIte, Nat.reduceEqDiff, Nat.reduceLT, Nat.reduceLeDiff, Nat.reduceAdd, Int.natCast_nonneg, Int.ofNat_lt, List.length_map, decide_true, decide_false, ne_eq, not_true_eq_false, not_false_eq_true, weaks_items, Int.lt_irrefl, Int.le_refl, hx, hw, hxw2, hd14, hxz, hal, hal2, Int.toNat_zero] <;> rfl) ?_
          refine DetC.gdo (by simp only [go_sem, ↓reduceIte, Nat.reduceEqDiff, Nat.reduceLT, Nat.reduceLeDiff, Nat.reduceAdd, Int.natCast_nonneg, Int.ofNat_lt, List.length_map, decide_true, decide_false, ne_eq, not_true_eq_false, not_false_eq_true, weaks_items, Int.lt_irrefl, Int.le_refl, hx, hw, hxw2, hd14, hxz, hal, hal2, Int.toNat_zero] <;> rfl) (by simp only [go_sem, ↓reduceIte, Nat.reduceEqDiff, Nat.reduceLT, Nat.reduceLeDiff, Nat.reduceAdd, Int.natCast_nonneg, Int.ofNat_lt, List.length_map, decide_true, decide_false, ne_eq, not_true_eq_false, not_false_eq_true, weaks_items, Int.lt_irrefl, Int.le_refl, hx, hw, hxw2, hd14, hxz, hal, hal2, Int.toNat_zero] <;> rfl) ?_
          refine DetC.gdo (by simp only [go_sem, ↓reduceIte, Nat.reduceEqDiff, Nat.reduceLT, Nat.reduceLeDiff, Nat.reduceAdd, Int.natCast_nonneg, Int.ofNat_lt, List.length_map, decide_true, decide_false, ne_eq, not_true_eq_false, not_false_eq_true, weaks_items, Int.lt_irrefl, Int.le_refl, hx, hw, hxw2, hd14, hxz, hal, hal2, Int.toNat_zero] <;> rfl) (by simp only [go_sem, ↓reduceIte, Nat.reduceEqDiff, Nat.reduceLT, Nat.reduceLeDiff, Nat.reduceAdd, Int.natCast_nonneg, Int.ofNat_lt, List.length_map, decide_true, decide_false, ne_eq, not_true_eq_false, not_false_eq_true, weaks_items, Int.lt_irrefl, Int.le_refl, hx, hw, hxw2, hd14, hxz, hal, hal2, Int.toNat_zero] <;> rfl) ?_
          refine DetC.all (by simp only [go_sem, ↓reduceIte, Nat.reduceEqDiff, Nat.reduceLT, Nat.reduceLeDiff, Nat.reduceAdd, Int.natCast_nonneg, Int.ofNat_lt, List.length_map, decide_true, decide_false, ne_eq, not_true_eq_false, not_false_eq_true, weaks_items, Int.lt_irrefl, Int.le_refl, hx, hw, hxw2, hd14, hxz, hal, hal2, Int.toNat_zero] <;> rfl) ?_
          refine Run.envEq' (by simp only [go_sem, ↓reduceIte, Nat.reduceEqDiff, Nat.reduceLT, Nat.reduceLeDiff, Nat.reduceAdd, Int.natCast_nonneg, Int.ofNat_lt, List.length_map, decide_true, decide_false, ne_eq, not_true_eq_false, not_false_eq_true, weaks_items, Int.lt_irrefl, Int.le_refl, hx, hw, hxw2, hd14, hxz, hal, hal2, Int.toNat_zero] <;> rfl) ?_
          refine Run.cond (by simp only [go_sem, ↓reduceIte, Nat.reduceEqDiff, Nat.reduceLT, Nat.reduceLeDiff, Nat.reduceAdd, Int.natCast_nonneg, Int.ofNat_lt, List.length_map, decide_true, decide_false, ne_eq, not_true_eq_false, not_false_eq_true, weaks_items, Int.lt_irrefl, Int.le_refl, hx, hw, hxw2, hd14, hxz, hal, hal2, Int.toNat_zero] <;> rfl) (fun hc9 => ?_) (fun hc9 => ?_)
          · cases hc9
          · have hc := hc9
            refine Run.skip ?_
            refine Run.blk ?_
            refine Run.region ?_
            refine RunO.all (by simp only [go_sem, ↓reduceIte, Nat.reduceEqDiff, Nat.reduceLT, Nat.reduceLeDiff, Nat.reduceAdd, Int.natCast_nonneg, Int.ofNat_lt, List.length_map, decide_true, decide_false, ne_eq, not_true_eq_false, not_false_eq_true, weaks_items, Int.lt_irrefl, Int.le_refl, hx, hw, hxw2, hd14, hxz, hal, hal2, Int.toNat_zero] <;> rfl) ?_
            refine RunO.live' [0, 3, 4, 5, 6] (by simp only [go_sem, ↓reduceIte, Nat.reduceEqDiff, Nat.reduceLT, Nat.reduceLeDiff, Nat.reduceAdd, Int.natCast_nonneg, Int.ofNat_lt, List.length_map, decide_true, decide_false, ne_eq, not_true_eq_false, not_false_eq_true, weaks_items, Int.lt_irrefl, Int.le_refl, hx, hw, hxw2, hd14, hxz, hal, hal2, Int.toNat_zero] <;> rfl) ?_
            refine Run.lp ⟨⟨i + 1, xs, w, L, kw, o, rfl, P11.new _, hwl, hol, by omega⟩, ?_⟩
            simp only [ivar, go_sem, ↓reduceIte, Nat.reduceEqDiff]
            omega
      intro hJb2
      refine Run.block ?_
      refine Run.seq ?_
      refine Run.region ?_
      refine RunO.all (by simp only [go_sem, ↓reduceIte, Nat.reduceEqDiff, Nat.reduceLT, Nat.reduceLeDiff, Nat.reduceAdd, Int.natCast_nonneg, Int.ofNat_lt, List.length_map, decide_true, decide_false, ne_eq, not_true_eq_false, not_false_eq_true, weaks_items, Int.lt_irrefl, Int.le_refl, hx, hw] <;> rfl) ?_
      refine RunO.live' [0, 3, 4, 5, 6, 7, 35, 55] (by simp only [go_sem, ↓reduceIte, Nat.reduceEqDiff, Nat.reduceLT, Nat.reduceLeDiff, Nat.reduceAdd, Int.natCast_nonneg, Int.ofNat_lt, List.length_map, decide_true, decide_false, ne_eq, not_true_eq_false, not_false_eq_true, weaks_items, Int.lt_irrefl, Int.le_refl, hx, hw] <;> rfl) ?_
      refine Run.cond (by simp only [go_sem, ↓reduceIte, Nat.reduceEqDiff, Nat.reduceLT, Nat.reduceLeDiff, Nat.reduceAdd, Int.natCast_nonneg, Int.ofNat_lt, List.length_map, decide_true, decide_false, ne_eq, not_true_eq_false, not_false_eq_true, weaks_items, Int.lt_irrefl, Int.le_refl, hx, hw] <;> rfl) (fun hc2 => ?_) (fun hc2 => ?_)
      · have hc := hc2
        refine Run.seq ?_
        refine Run.region ?_
        refine RunO.ops (pre := [_, _, _]) (by simp only [go_sem, ↓reduceIte, Nat.reduceEqDiff, Nat.reduceLT, Nat.reduceLeDiff, Nat.reduceAdd, Int.natCast_nonneg, Int.ofNat_lt, List.length_map, decide_true, decide_false, ne_eq, not_true_eq_false, not_false_eq_true, weaks_items, Int.lt_irrefl, Int.le_refl, hx, hw] <;> rfl) ?_
        refine RunO.callw (by simp only [go_sem, ↓reduceIte, Nat.reduceEqDiff, Nat.reduceLT, Nat.reduceLeDiff, Nat.reduceAdd, Int.natCast_nonneg, Int.ofNat_lt, List.length_map, decide_true, decide_false, ne_eq, not_true_eq_false, not_false_eq_true, weaks_items, Int.lt_irrefl, Int.le_refl, hx, hw] <;> rfl) (by simp only [go_sem, ↓reduceIte, Nat.reduceEqDiff, Nat.reduceLT, Nat.reduceLeDiff, Nat.reduceAdd, Int.natCast_nonneg, Int.ofNat_lt, List.length_map, decide_true, decide_false, ne_eq, not_true_eq_false, not_false_eq_true, weaks_items, Int.lt_irrefl, Int.le_refl, hx, hw] <;> rfl) (by simp only [go_sem, ↓reduceIte, Nat.reduceEqDiff, Nat.reduceLT, Nat.reduceLeDiff, Nat.reduceAdd, Int.natCast_nonneg, Int.ofNat_lt, List.length_map, decide_true, decide_false, ne_eq, not_true_eq_false, not_false_eq_true, weaks_items, Int.lt_irrefl, Int.le_refl, hx, hw] <;> rfl) (by kernel_rfl) (((due_ (l := w) (by omega)).wf).mono ?_)
        rintro r5 s5 ⟨wf5, out, kk, rfl, p5, q5, g5, t5, n5, f5⟩
        have P5 := P4.frame wf5 n5 f5
        refine RunO.all (by simp only [go_sem, ↓reduceIte, Nat.reduceEqDiff, Nat.reduceLT, Nat.reduceLeDiff, Nat.reduceAdd, Int.natCast_nonneg, Int.ofNat_lt, List.length_map, decide_true, decide_false, ne_eq, not_true_eq_false, not_false_eq_true, weaks_items, Int.lt_irrefl, Int.le_refl, hx, hw] <;> rfl) ?_
        refine RunO.live' [0, 3, 5, 6, 7, 8, 9] (by simp only [go_sem, ↓reduceIte, Nat.reduceEqDiff, Nat.reduceLT, Nat.reduceLeDiff, Nat.reduceAdd, Int.natCast_nonneg, Int.ofNat_lt, List.length_map, decide_true, decide_false, ne_eq, not_true_eq_false, not_false_eq_true, weaks_items, Int.lt_irrefl, Int.le_refl, hx, hw] <;> rfl) ?_
        refine Run.seq ?_
        have hX5 := (f5 s3.nxt (by rw [nxt_new]; omega)).trans hX4
        refine Run.region ?_
        refine RunO.all (by simp only [go_sem, ↓reduceIte, Nat.reduceEqDiff, Nat.reduceLT, Nat.reduceLeDiff, Nat.reduceAdd, Int.natCast_nonneg, Int.ofNat_lt, List.length_map, decide_true, decide_false, ne_eq, not_true_eq_false, not_false_eq_true, weaks_items, Int.lt_irrefl, Int.le_refl, hx, hw, hX5] <;> rfl) ?_
        refine RunO.live' [0, 3, 4, 5, 6, 7, 8] (by simp only [go_sem, ↓reduceIte, Nat.reduceEqDiff, Nat.reduceLT, Nat.reduceLeDiff, Nat.reduceAdd, Int.natCast_nonneg, Int.ofNat_lt, List.length_map, decide_true, decide_false, ne_eq, not_true_eq_false, not_false_eq_true, weaks_items, Int.lt_irrefl, Int.le_refl, hx, hw, hX5] <;> rfl) ?_
        refine Run.seq ?_
        refine Run.region ?_
        refine RunO.ops (pre := [_, _, _]) (by simp only [go_sem, ↓reduceIte, Nat.reduceEqDiff, Nat.reduceLT, Nat.reduceLeDiff, Nat.reduceAdd, Int.natCast_nonneg, Int.ofNat_lt, List.length_map, decide_true, decide_false, ne_eq, not_true_eq_false, not_false_eq_true, weaks_items, Int.lt_irrefl, Int.le_refl, hx, hw, hX5] <;> rfl) ?_
        refine RunO.callw (by simp only [go_sem, ↓reduceIte, Nat.reduceEqDiff, Nat.reduceLT, Nat.reduceLeDiff, Nat.reduceAdd, Int.natCast_nonneg, Int.ofNat_lt, List.length_map, decide_true, decide_false, ne_eq, not_true_eq_false, not_false_eq_true, weaks_items, Int.lt_irrefl, Int.le_refl, hx, hw, hX5] <;> rfl) (by simp only [go_sem, ↓reduceIte, Nat.reduceEqDiff, Nat.reduceLT, Nat.reduceLeDiff, Nat.reduceAdd, Int.natCast_nonneg, Int.ofNat_lt, List.length_map, decide_true, decide_false, ne_eq, not_true_eq_false, not_false_eq_true, weaks_items, Int.lt_irrefl, Int.le_refl, hx, hw, hX5] <;> rfl) (by simp only [go_sem, ↓reduceIte, Nat.reduceEqDiff, Nat.reduceLT, Nat.reduceLeDiff, Nat.reduceAdd, Int.natCast_nonneg, Int.ofNat_lt, List.length_map, decide_true, decide_false, ne_eq, not_true_eq_false, not_false_eq_true, weaks_items, Int.lt_irrefl, Int.le_refl, hx, hw, hX5] <;> rfl) (by kernel_rfl) (((hold_Due P5.hold (by omega)).wf).mono ?_)
        rintro r6 s6 ⟨wf6, out2, xs6, rfl, A6, m6, u1, u2, u3⟩
        obtain rfl : out2 = out := sorted_one ((u1.trans (P5.perm.filter _)).trans p5.symm) u3 q5 (nodup_perm_filter P5.nd (u1.trans (P5.perm.filter _)))
        refine RunO.ops (pre := [_]) (by simp only [go_sem, ↓reduceIte, Nat.reduceEqDiff, Nat.reduceLT, Nat.reduceLeDiff, Nat.reduceAdd, Int.natCast_nonneg, Int.ofNat_lt, List.length_map, decide_true, decide_false, ne_eq, not_true_eq_false, not_false_eq_true, weaks_items, Int.lt_irrefl, Int.le_refl, hx, hw, hX5] <;> rfl) ?_
        refine RunO.callw (by simp only [go_sem, ↓reduceIte, Nat.reduceEqDiff, Nat.reduceLT, Nat.reduceLeDiff, Nat.reduceAdd, Int.natCast_nonneg, Int.ofNat_lt, List.length_map, decide_true, decide_false, ne_eq, not_true_eq_false, not_false_eq_true, weaks_items, Int.lt_irrefl, Int.le_refl, hx, hw, hX5] <;> rfl) (by simp only [go_sem, ↓reduceIte, Nat.reduceEqDiff, Nat.reduceLT, Nat.reduceLeDiff, Nat.reduceAdd, Int.natCast_nonneg, Int.ofNat_lt, List.length_map, decide_true, decide_false, ne_eq, not_true_eq_false, not_false_eq_true, weaks_items, Int.lt_irrefl, Int.le_refl, hx, hw, hX5] <;> rfl) (by simp only [go_sem, ↓reduceIte, Nat.reduceEqDiff, Nat.reduceLT, Nat.reduceLeDiff, Nat.reduceAdd, Int.natCast_nonneg, Int.ofNat_lt, List.length_map, decide_true, decide_false, ne_eq, not_true_eq_false, not_false_eq_true, weaks_items, Int.lt_irrefl, Int.le_refl, hx, hw, hX5] <;> rfl) (by kernel_rfl) ((same_ (xs := out2) (ys := out2) (by have := p5.length_eq; have := List.length_filter_le (fun x : Item => decide (x.tick ≤ a.t)) w; omega)).mono ?_)
        rintro r7 s7 ⟨rfl, hs⟩
        subst s7
        refine RunO.all (by simp only [go_sem, ↓reduceIte, Nat.reduceEqDiff, Nat.reduceLT, Nat.reduceLeDiff, Nat.reduceAdd, Int.natCast_nonneg, Int.ofNat_lt, List.length_map, decide_true, decide_false, ne_eq, not_true_eq_false, not_false_eq_true, weaks_items, Int.lt_irrefl, Int.le_refl, hx, hw, hX5] <;> rfl) ?_
        refine RunO.live' [0, 3, 4, 5, 6, 71] (by simp only [go_sem, ↓reduceIte, Nat.reduceEqDiff, Nat.reduceLT, Nat.reduceLeDiff, Nat.reduceAdd, Int.natCast_nonneg, Int.ofNat_lt, List.length_map, decide_true, decide_false, ne_eq, not_true_eq_false, not_false_eq_true, weaks_items, Int.lt_irrefl, Int.le_refl, hx, hw, hX5] <;> rfl) ?_
        refine Run.cond (by simp only [go_sem, ↓reduceIte, Nat.reduceEqDiff, Nat.reduceLT, Nat.reduceLeDiff, Nat.reduceAdd, Int.natCast_nonneg, Int.ofNat_lt, List.length_map, decide_true, decide_false, ne_eq, not_true_eq_false, not_false_eq_true, weaks_items, Int.lt_irrefl, Int.le_refl, hx, hw, hX5] <;> rfl) (fun hc3 => ?_) (fun hc3 => ?_)
        · cases hc3
        · have hc := hc3
          refine Run.skip ?_
          refine Run.blk ?_
          refine Run.prune [0, 3, 4, 5, 6] (by simp only [go_sem, ↓reduceIte, Nat.reduceEqDiff, Nat.reduceLT, Nat.reduceLeDiff, Nat.reduceAdd, Int.natCast_nonneg, Int.ofNat_lt, List.length_map, decide_true, decide_false, ne_eq, not_true_eq_false, not_false_eq_true, weaks_items, Int.lt_irrefl, Int.le_refl, hx, hw, hX5] <;> rfl) ?_
          exact hJb2 _ _ ⟨xs6, _, _, kk, o, rfl, P5.move wf6 A6 m6 rfl (u2.trans (P5.perm.filter _)) g5 (fun t z e => (t5 t z e).2), by have := List.length_filter_le (fun x : Item => decide (a.t < x.tick)) w; omega, by omega⟩
      · have hc := hc2
        refine Run.seq ?_
        refine Run.region ?_
        refine RunO.all (by simp only [go_sem, ↓reduceIte, Nat.reduceEqDiff, Nat.reduceLT, Nat.reduceLeDiff, Nat.reduceAdd, Int.natCast_nonneg, Int.ofNat_lt, List.length_map, decide_true, decide_false, ne_eq, not_true_eq_false, not_false_eq_true, weaks_items, Int.lt_irrefl, Int.le_refl, hx, hw] <;> rfl) ?_
        refine RunO.live' [0, 3, 4, 5, 6, 7, 72] (by simp only [go_sem, ↓reduceIte, Nat.reduceEqDiff, Nat.reduceLT, Nat.reduceLeDiff, Nat.reduceAdd, Int.natCast_nonneg, Int.ofNat_lt, List.length_map, decide_true, decide_false, ne_eq, not_true_eq_false, not_false_eq_true, weaks_items, Int.lt_irrefl, Int.le_refl, hx, hw] <;> rfl) ?_
        refine Run.cond (by simp only [go_sem, ↓reduceIte, Nat.reduceEqDiff, Nat.reduceLT, Nat.reduceLeDiff, Nat.reduceAdd, Int.natCast_nonneg, Int.ofNat_lt, List.length_map, decide_true, decide_false, ne_eq, not_true_eq_false, not_false_eq_true, weaks_items, Int.lt_irrefl, Int.le_refl, hx, hw] <;> rfl) (fun hc4 => ?_) (fun hc4 => ?_)
        · have hc := hc4
          refine Run.seq ?_
          refine Run.region ?_
          refine RunO.all (by simp only [go_sem, ↓reduceIte, Nat.reduceEqDiff, Nat.reduceLT, Nat.reduceLeDiff, Nat.reduceAdd, Int.natCast_nonneg, Int.ofNat_lt, List.length_map, decide_true, decide_false, ne_eq, not_true_eq_false, not_false_eq_true, weaks_items, Int.lt_irrefl, Int.le_refl, hx, hw] <;> rfl) ?_
          refine RunO.live' [0, 3, 4, 5, 6, 7, 10] (by simp only [go_sem, ↓reduceIte, Nat.reduceEqDiff, Nat.reduceLT, Nat.reduceLeDiff, Nat.reduceAdd, Int.natCast_nonneg, Int.ofNat_lt, List.length_map, decide_true, decide_false, ne_eq, not_true_eq_false, not_false_eq_true, weaks_items, Int.lt_irrefl, Int.le_refl, hx, hw] <;> rfl) ?_
          refine Run.seq ?_
          refine Run.seq ?_
          refine Run.region ?_
          refine RunO.all (by simp only [go_sem, ↓reduceIte, Nat.reduceEqDiff, Nat.reduceLT, Nat.reduceLeDiff, Nat.reduceAdd, Int.natCast_nonneg, Int.ofNat_lt, List.length_map, decide_true, decide_false, ne_eq, not_true_eq_false, not_false_eq_true, weaks_items, Int.lt_irrefl, Int.le_refl, hx, hw] <;> rfl) ?_
          refine RunO.live' [0, 3, 4, 5, 6, 7, 10, 74, 75, 76] (by simp only [go_sem, ↓reduceIte, Nat.reduceEqDiff, Nat.reduceLT, Nat.reduceLeDiff, Nat.reduceAdd, Int.natCast_nonneg, Int.ofNat_lt, List.length_map, decide_true, decide_false, ne_eq, not_true_eq_false, not_false_eq_true, weaks_items, Int.lt_irrefl, Int.le_refl, hx, hw] <;> rfl) ?_
          refine Run.block ?_
          -- loop 1, live [0, 3, 4, 5, 6, 7, 10, 74, 75, 76]
          refine Run.loop (fun e s' => ∃ (q : Nat) (left : List Item) (kk : SK), e = [(0, .sl .unk (l.map AskI.pv)), (3, .ptr s.nxt 0 0), (4, .sl kw (w.map Item.pv)), (5, .int .i64 o), (6, .int .i64 i), (7, .ptr s3.nxt 0 0), (10, .sl kk (left.map Item.pv)), (74, .sl kw (w.map Item.pv)), (75, .int .i64 w.length), (76, .int .i64 q)] ∧ PInv s' s.nxt xs w L kw o ∧ s'.blk s3.nxt = some (.row 24 [.agg [.int .i64 a.kind, .int .i64 a.t, .int .i64 a.key]]) ∧ s3.nxt < s'.nxt ∧ Grows s' kk left.length 3 ∧ (∀ t z, kk = .tok t z → t < s'.nxt) ∧ (∀ t z t' z', kk = .tok t z → kw = .tok t' z' → t ≠ t') ∧ q ≤ w.length ∧ left = keepF a.key (w.take q)) (fun e s' => w.length - ivar e 76) ?_ ?_
          · exact ⟨0, [], .nil, rfl, P4, hX4, by rw [nxt_new]; omega, .inl ⟨rfl, rfl⟩, by simp, by simp, by omega, rfl⟩
          rintro e s5 ⟨q, left, kk, rfl, P5, hX5, hsn, hgr, htk, hdis, hq, hleft⟩
          refine Run.seq ?_
          refine Run.region ?_
          refine RunO.all (by simp only [go_sem, ↓reduceIte, Nat.reduceEqDiff, Nat.reduceLT, Nat.reduceLeDiff, Nat.reduceAdd, Int.natCast_nonneg, Int.ofNat_lt, List.length_map, decide_true, decide_false, ne_eq, not_true_eq_false, not_false_eq_true, weaks_items, Int.lt_irrefl, Int.le_refl, hx, hw] <;> rfl) ?_
          refine RunO.live' [0, 3, 4, 5, 6, 7, 10, 74, 75, 76, 77] (by simp only [go_sem, ↓reduceIte, Nat.reduceEqDiff, Nat.reduceLT, Nat.reduceLeDiff, Nat.reduceAdd, Int.natCast_nonneg, Int.ofNat_lt, List.length_map, decide_true, decide_false, ne_eq, not_true_eq_false, not_false_eq_true, weaks_items, Int.lt_irrefl, Int.le_refl, hx, hw] <;> rfl) ?_
          refine Run.seq ?_
          refine Run.cond (by simp only [go_sem, ↓reduceIte, Nat.reduceEqDiff, Nat.reduceLT, Nat.reduceLeDiff, Nat.reduceAdd, Int.natCast_nonneg, Int.ofNat_lt, List.length_map, decide_true, decide_false, ne_eq, not_true_eq_false, not_false_eq_true, weaks_items, Int.lt_irrefl, Int.le_refl, hx, hw] <;> rfl) (fun hc5 => ?_) (fun hc5 => ?_)
          · have hc := hc5
            refine Run.skip ?_
            refine Run.seq ?_
            refine Run.block ?_
            refine Run.seq ?_
            have hqo : q < w.length := by have := of_decide_eq_true hc5; omega
            have hxo : (w.map Item.pv)[q]? = some (.agg [.int .i64 (at0 w q).tick, .int .i64 (at0 w q).order, .int .i64 (at0 w q).key]) := map_at0 hqo
            have hwq : IntKind.i64.wrap ((q : Int) + 1) = ((q + 1 : Nat) : Int) := by rw [wrap_i64 (by omega)]; omega
            have hXn : (s3.nxt = s5.nxt) = False := eq_false (by omega)
            have P6 := P5.new (.row 37 [.agg [.int .i64 (at0 w q).tick, .int .i64 (at0 w q).order, .int .i64 (at0 w q).key]])
            refine Run.region ?_
            refine RunO.all (by simp only [go_sem, ↓reduceIte, Nat.reduceEqDiff, Nat.reduceLT, Nat.reduceLeDiff, Nat.reduceAdd, Int.natCast_nonneg, Int.ofNat_lt, List.length_map, decide_true, decide_false, ne_eq, not_true_eq_false, not_false_eq_true, weaks_items, Int.lt_irrefl, Int.le_refl, hx, hw, hxo, hwq, hX5, hXn] <;> rfl) ?_
            refine RunO.live' [0, 3, 4, 5, 6, 7, 10, 12, 74, 75, 76] (by simp only [go_sem, ↓reduceIte, Nat.reduceEqDiff, Nat.reduceLT, Nat.reduceLeDiff, Nat.reduceAdd, Int.natCast_nonneg, Int.ofNat_lt, List.length_map, decide_true, decide_false, ne_eq, not_true_eq_false, not_false_eq_true, weaks_items, Int.lt_irrefl, Int.le_refl, hx, hw, hxo, hwq, hX5, hXn] <;> rfl) ?_
            refine Run.seq ?_
            refine Run.region ?_
            refine RunO.all (by simp only [go_sem, ↓reduceIte, Nat.reduceEqDiff, Nat.reduceLT, Nat.reduceLeDiff, Nat.reduceAdd, Int.natCast_nonneg, Int.ofNat_lt, List.length_map, decide_true, decide_false, ne_eq, not_true_eq_false, not_false_eq_true, weaks_items, Int.lt_irrefl, Int.le_refl, hx, hw, hxo, hwq, hX5, hXn] <;> rfl) ?_
            refine RunO.live' [0, 3, 4, 5, 6, 7, 10, 12, 74, 75, 76, 84] (by simp only [go_sem, ↓reduceIte, Nat.reduceEqDiff, Nat.reduceLT, Nat.reduceLeDiff, Nat.reduceAdd, Int.natCast_nonneg, Int.ofNat_lt, List.length_map, decide_true, decide_false, ne_eq, not_true_eq_false, not_false_eq_true, weaks_items, Int.lt_irrefl, Int.le_refl, hx, hw, hxo, hwq, hX5, hXn] <;> rfl) ?_
            refine Run.cond (by simp only [go_sem, ↓reduceIte, Nat.reduceEqDiff, Nat.reduceLT, Nat.reduceLeDiff, Nat.reduceAdd, Int.natCast_nonneg, Int.ofNat_lt, List.length_map, decide_true, decide_false, ne_eq, not_true_eq_false, not_false_eq_true, weaks_items, Int.lt_irrefl, Int.le_refl, hx, hw, hxo, hwq, hX5, hXn] <;> rfl) (fun hc6 => ?_) (fun hc6 => ?_)
            · have hc := hc6
              have hgr2 : Grows (s5.new (.row 37 [.agg [.int .i64 (at0 w q).tick, .int .i64 (at0 w q).order, .int .i64 (at0 w q).key]])) kk (left.map Item.pv).length 3 := by
                rw [List.length_map]
                refine hgr.mono fun t ht => ?_
                have := htk t 3 ht
                rw [blk_new, if_neg (by omega)]
              have hlq : left.length ≤ q := by rw [hleft]; exact Nat.le_trans (List.length_filter_le _ _) (by simp; omega)
              refine Run.region ?_
              refine RunO.ops (pre := [_, _]) (by simp only [go_sem, ↓reduceIte, Nat.reduceEqDiff, Nat.reduceLT, Nat.reduceLeDiff, Nat.reduceAdd, Int.natCast_nonneg, Int.ofNat_lt, List.length_map, decide_true, decide_false, ne_eq, not_true_eq_false, not_false_eq_true, weaks_items, Int.lt_irrefl, Int.le_refl, hx, hw, hxo, hwq, hX5, hXn] <;> rfl) ?_
              refine RunO.lit (by simp only [go_sem, ↓reduceIte, Nat.reduceEqDiff, Nat.reduceLT, Nat.reduceLeDiff, Nat.reduceAdd, Int.natCast_nonneg, Int.ofNat_lt, List.length_map, decide_true, decide_false, ne_eq, not_true_eq_false, not_false_eq_true, weaks_items, Int.lt_irrefl, Int.le_refl, hx, hw, hxo, hwq, hX5, hXn] <;> rfl) (by simp only [go_sem, ↓reduceIte, Nat.reduceEqDiff, Nat.reduceLT, Nat.reduceLeDiff, Nat.reduceAdd, Int.natCast_nonneg, Int.ofNat_lt, List.length_map, decide_true, decide_false, ne_eq, not_true_eq_false, not_false_eq_true, weaks_items, Int.lt_irrefl, Int.le_refl, hx, hw, hxo, hwq, hX5, hXn] <;> rfl) ?_
              refine RunO.grow (by simp only [go_sem, ↓reduceIte, Nat.reduceEqDiff, Nat.reduceLT, Nat.reduceLeDiff, Nat.reduceAdd, Int.natCast_nonneg, Int.ofNat_lt, List.length_map, decide_true, decide_false, ne_eq, not_true_eq_false, not_false_eq_true, weaks_items, Int.lt_irrefl, Int.le_refl, hx, hw, hxo, hwq, hX5, hXn] <;> rfl) (by simp only [go_sem, ↓reduceIte, Nat.reduceEqDiff, Nat.reduceLT, Nat.reduceLeDiff, Nat.reduceAdd, Int.natCast_nonneg, Int.ofNat_lt, List.length_map, decide_true, decide_false, ne_eq, not_true_eq_false, not_false_eq_true, weaks_items, Int.lt_irrefl, Int.le_refl, hx, hw, hxo, hwq, hX5, hXn] <;> rfl) (by simp only [go_sem, ↓reduceIte, Nat.reduceEqDiff, Nat.reduceLT, Nat.reduceLeDiff, Nat.reduceAdd, Int.natCast_nonneg, Int.ofNat_lt, List.length_map, decide_true, decide_false, ne_eq, not_true_eq_false, not_false_eq_true, weaks_items, Int.lt_irrefl, Int.le_refl, hx, hw, hxo, hwq, hX5, hXn] <;> rfl) Try.td32 (by rw [Try.zp37]; rfl) (isEls_items _) (isEls_item (at0 w q)) (by rw [Try.by37]; decide) (by rw [Try.by37]; simp; omega) (by rw [Try.cz37]; exact hgr2) (by simp) ?_
              intro kk' s' hgr' htm
              refine RunO.all (by simp only [go_sem, ↓reduceIte, Nat.reduceEqDiff, Nat.reduceLT, Nat.reduceLeDiff, Nat.reduceAdd, Int.natCast_nonneg, Int.ofNat_lt, List.length_map, decide_true, decide_false, ne_eq, not_true_eq_false, not_false_eq_true, weaks_items, Int.lt_irrefl, Int.le_refl, hx, hw, hxo, hwq, hX5, hXn] <;> rfl) ?_
              refine RunO.live' [0, 3, 4, 5, 6, 7, 10, 74, 75, 76] (by simp only [go_sem, ↓reduceIte, Nat.reduceEqDiff, Nat.reduceLT, Nat.reduceLeDiff, Nat.reduceAdd, Int.natCast_nonneg, Int.ofNat_lt, List.length_map, decide_true, decide_false, ne_eq, not_true_eq_false, not_false_eq_true, weaks_items, Int.lt_irrefl, Int.le_refl, hx, hw, hxo, hwq, hX5, hXn] <;> rfl) ?_
              refine Run.blk ?_
              refine Run.region ?_
              refine RunO.all (by simp only [go_sem, ↓reduceIte, Nat.reduceEqDiff, Nat.reduceLT, Nat.reduceLeDiff, Nat.reduceAdd, Int.natCast_nonneg, Int.ofNat_lt, List.length_map, decide_true, decide_false, ne_eq, not_true_eq_false, not_false_eq_true, weaks_items, Int.lt_irrefl, Int.le_refl, hx, hw, hxo, hwq, hX5, hXn] <;> rfl) ?_
              refine RunO.live' [0, 3, 4, 5, 6, 7, 10, 74, 75, 76] (by simp only [go_sem, ↓reduceIte, Nat.reduceEqDiff, Nat.reduceLT, Nat.reduceLeDiff, Nat.reduceAdd, Int.natCast_nonneg, Int.ofNat_lt, List.length_map, decide_true, decide_false, ne_eq, not_true_eq_false, not_false_eq_true, weaks_items, Int.lt_irrefl, Int.le_refl, hx, hw, hxo, hwq, hX5, hXn] <;> rfl) ?_
              have hne : (at0 w q).key ≠ a.key := by simpa using hc6
              rw [Try.cz37] at hgr'
              have hn2 := htm.nxt
              rw [nxt_new] at hn2
              refine Run.lp ⟨⟨q + 1, left ++ [at0 w q], kk', by rw [List.map_append]; rfl, P6.tmove hgr2 hdis htm, ?_, by omega, by simpa using hgr', fun t z e => ?_, fun t z t' z' e e' => ?_, by omega, ?_⟩, ?_⟩
              · rw [htm.rest s3.nxt (by rw [nxt_new]; omega) (fun z e => ?_), blk_new, if_neg (by omega)]
                · exact hX5
                · exact hgr.ne e s3.nxt hX5 (by simp) rfl
              · rcases htm.fresh t z e with ⟨z2, h⟩ | ⟨_, h⟩
                · have := htk t z2 h; omega
                · exact h
              · rcases htm.fresh t z e with ⟨z2, h⟩ | ⟨h, _⟩
                · exact hdis t z2 t' z' h e'
                · have := P5.tok t' z' e'
                  rw [nxt_new] at h
                  omega
              · rw [take_succ_at0 hqo, keepF_snoc, if_neg hne, hleft]
              · simp only [ivar, go_sem, ↓reduceIte, Nat.reduceEqDiff]
                omega
            · have hc := hc6
              refine Run.skip ?_
              refine Run.blk ?_
              refine Run.region ?_
              refine RunO.all (by simp only [go_sem, ↓reduceIte, Nat.reduceEqDiff, Nat.reduceLT, Nat.reduceLeDiff, Nat.reduceAdd, Int.natCast_nonneg, Int.ofNat_lt, List.length_map, decide_true, decide_false, ne_eq, not_true_eq_false, not_false_eq_true, weaks_items, Int.lt_irrefl, Int.le_refl, hx, hw, hxo, hwq, hX5, hXn] <;> rfl) ?_
              refine RunO.live' [0, 3, 4, 5, 6, 7, 10, 74, 75, 76] (by simp only [go_sem, ↓reduceIte, Nat.reduceEqDiff, Nat.reduceLT, Nat.reduceLeDiff, Nat.reduceAdd, Int.natCast_nonneg, Int.ofNat_lt, List.length_map, decide_true, decide_false, ne_eq, not_true_eq_false, not_false_eq_true, weaks_items, Int.lt_irrefl, Int.le_refl, hx, hw, hxo, hwq, hX5, hXn] <;> rfl) ?_
              have hne : (at0 w q).key = a.key := by simpa using hc6
              refine Run.lp ⟨⟨q + 1, left, kk, rfl, P6, ?_, by rw [nxt_new]; omega, hgr.mono fun t ht => ?_, fun t z e => ?_, hdis, by omega, ?_⟩, ?_⟩
              · rw [blk_new, if_neg (by omega)]; exact hX5
              · have := htk t 3 ht
                rw [blk_new, if_neg (by omega)]
              · have := htk t z e
                rw [nxt_new]; omega
              · rw [take_succ_at0 hqo, keepF_snoc, if_pos hne, hleft]
              · simp only [ivar, go_sem, ↓reduceIte, Nat.reduceEqDiff]
                omega
          · have hc := hc5
            refine Run.exit ?_
            show Run _ _ _ _ _ _
            refine Run.seq ?_
            refine Run.seq ?_
            refine Run.region ?_
            refine RunO.ops (pre := [_, _, _]) (by simp only [go_sem, ↓reduceIte, Nat.reduceEqDiff, Nat.reduceLT, Nat.reduceLeDiff, Nat.reduceAdd, Int.natCast_nonneg, Int.ofNat_lt, List.length_map, decide_true, decide_false, ne_eq, not_true_eq_false, not_false_eq_true, weaks_items, Int.lt_irrefl, Int.le_refl, hx, hw, hX5] <;> rfl) ?_
            refine RunO.callw (by simp only [go_sem, ↓reduceIte, Nat.reduceEqDiff, Nat.reduceLT, Nat.reduceLeDiff, Nat.reduceAdd, Int.natCast_nonneg, Int.ofNat_lt, List.length_map, decide_true, decide_false, ne_eq, not_true_eq_false, not_false_eq_true, weaks_items, Int.lt_irrefl, Int.le_refl, hx, hw, hX5] <;> rfl) (by simp only [go_sem, ↓reduceIte, Nat.reduceEqDiff, Nat.reduceLT, Nat.reduceLeDiff, Nat.reduceAdd, Int.natCast_nonneg, Int.ofNat_lt, List.length_map, decide_true, decide_false, ne_eq, not_true_eq_false, not_false_eq_true, weaks_items, Int.lt_irrefl, Int.le_refl, hx, hw, hX5] <;> rfl) (by simp only [go_sem, ↓reduceIte, Nat.reduceEqDiff, Nat.reduceLT, Nat.reduceLeDiff, Nat.reduceAdd, Int.natCast_nonneg, Int.ofNat_lt, List.length_map, decide_true, decide_false, ne_eq, not_true_eq_false, not_false_eq_true, weaks_items, Int.lt_irrefl, Int.le_refl, hx, hw, hX5] <;> rfl) (by kernel_rfl) (((hold_Drop P5.hold (by omega)).wf).mono ?_)
            rintro r8 s8 ⟨wf8, xs8, hr8, A8, m8, p8⟩
            have hl8 : xs8.length = (keepF a.key w).length := (p8.trans (P5.perm.filter _)).length_eq
            have hlk : (keepF a.key w).length ≤ w.length := List.length_filter_le _ _
            have hleft' : left = keepF a.key w := by
              have : q = w.length := by have := of_decide_eq_false hc5; omega
              rw [hleft, this, List.take_length]
            obtain rfl : r8 = .int .i64 ((w.length : Int) - (left.length : Int)) := by rw [hr8, hl8, hxw, hleft']
            have hw8 : IntKind.i64.wrap ((w.length : Int) - (left.length : Int)) = (w.length : Int) - (left.length : Int) := wrap_i64 (by rw [hleft']; omega)
            refine RunO.all (by simp only [go_sem, ↓reduceIte, Nat.reduceEqDiff, Nat.reduceLT, Nat.reduceLeDiff, Nat.reduceAdd, Int.natCast_nonneg, Int.ofNat_lt, List.length_map, decide_true, decide_false, ne_eq, not_true_eq_false, not_false_eq_true, weaks_items, Int.lt_irrefl, Int.le_refl, hx, hw, hX5, hw8] <;> rfl) ?_
            refine RunO.live' [0, 3, 5, 6, 10, 99] (by simp only [go_sem, ↓reduceIte, Nat.reduceEqDiff, Nat.reduceLT, Nat.reduceLeDiff, Nat.reduceAdd, Int.natCast_nonneg, Int.ofNat_lt, List.length_map, decide_true, decide_false, ne_eq, not_true_eq_false, not_false_eq_true, weaks_items, Int.lt_irrefl, Int.le_refl, hx, hw, hX5, hw8] <;> rfl) ?_
            refine Run.cond (by simp only [go_sem, ↓reduceIte, Nat.reduceEqDiff, Nat.reduceLT, Nat.reduceLeDiff, Nat.reduceAdd, Int.natCast_nonneg, Int.ofNat_lt, List.length_map, decide_true, decide_false, ne_eq, not_true_eq_false, not_false_eq_true, weaks_items, Int.lt_irrefl, Int.le_refl, hx, hw, hX5, hw8] <;> rfl) (fun hc7 => ?_) (fun hc7 => ?_)
            · cases hc7
            · have hc := hc7
              refine Run.skip ?_
              refine Run.region ?_
              refine RunO.all (by simp only [go_sem, ↓reduceIte, Nat.reduceEqDiff, Nat.reduceLT, Nat.reduceLeDiff, Nat.reduceAdd, Int.natCast_nonneg, Int.ofNat_lt, List.length_map, decide_true, decide_false, ne_eq, not_true_eq_false, not_false_eq_true, weaks_items, Int.lt_irrefl, Int.le_refl, hx, hw, hX5, hw8] <;> rfl) ?_
              refine RunO.live' [0, 3, 4, 5, 6] (by simp only [go_sem, ↓reduceIte, Nat.reduceEqDiff, Nat.reduceLT, Nat.reduceLeDiff, Nat.reduceAdd, Int.natCast_nonneg, Int.ofNat_lt, List.length_map, decide_true, decide_false, ne_eq, not_true_eq_false, not_false_eq_true, weaks_items, Int.lt_irrefl, Int.le_refl, hx, hw, hX5, hw8] <;> rfl) ?_
              refine Run.blk ?_
              exact hJb2 _ _ ⟨xs8, left, _, kk, o, rfl, P5.move wf8 A8 m8 hleft' (by rw [hleft']; exact p8.trans (P5.perm.filter _)) hgr htk, by rw [hleft']; omega, by omega⟩
        · have hc := hc4
          refine Run.seq ?_
          refine Run.seq ?_
          refine Run.region ?_
          refine RunO.ops (pre := [_, _, _, _, _]) (by simp only [go_sem, ↓reduceIte, Nat.reduceEqDiff, Nat.reduceLT, Nat.reduceLeDiff, Nat.reduceAdd, Int.natCast_nonneg, Int.ofNat_lt, List.length_map, decide_true, decide_false, ne_eq, not_true_eq_false, not_false_eq_true, weaks_items, Int.lt_irrefl, Int.le_refl, hx, hw] <;> rfl) ?_
          refine RunO.callw (by simp only [go_sem, ↓reduceIte, Nat.reduceEqDiff, Nat.reduceLT, Nat.reduceLeDiff, Nat.reduceAdd, Int.natCast_nonneg, Int.ofNat_lt, List.length_map, decide_true, decide_false, ne_eq, not_true_eq_false, not_false_eq_true, weaks_items, Int.lt_irrefl, Int.le_refl, hx, hw] <;> rfl) (by simp only [go_sem, ↓reduceIte, Nat.reduceEqDiff, Nat.reduceLT, Nat.reduceLeDiff, Nat.reduceAdd, Int.natCast_nonneg, Int.ofNat_lt, List.length_map, decide_true, decide_false, ne_eq, not_true_eq_false, not_false_eq_true, weaks_items, Int.lt_irrefl, Int.le_refl, hx, hw] <;> rfl) (by simp only [go_sem, ↓reduceIte, Nat.reduceEqDiff, Nat.reduceLT, Nat.reduceLeDiff, Nat.reduceAdd, Int.natCast_nonneg, Int.ofNat_lt, List.length_map, decide_true, decide_false, ne_eq, not_true_eq_false, not_false_eq_true, weaks_items, Int.lt_irrefl, Int.le_refl, hx, hw] <;> rfl) (by kernel_rfl) (((hold_Put (P4.hold.lt P4.wf) P4.hold (by omega) (by omega)).wf).mono ?_)
          rintro r9 s9 ⟨wf9, rfl, xs9, L9, A9, p9, m9⟩
          refine RunO.all (by simp only [go_sem, ↓reduceIte, Nat.reduceEqDiff, Nat.reduceLT, Nat.reduceLeDiff, Nat.reduceAdd, Int.natCast_nonneg, Int.ofNat_lt, List.length_map, decide_true, decide_false, ne_eq, not_true_eq_false, not_false_eq_true, weaks_items, Int.lt_irrefl, Int.le_refl, hx, hw] <;> rfl) ?_
          refine RunO.live' [0, 3, 4, 5, 6, 7, 43] (by simp only [go_sem, ↓reduceIte, Nat.reduceEqDiff, Nat.reduceLT, Nat.reduceLeDiff, Nat.reduceAdd, Int.natCast_nonneg, Int.ofNat_lt, List.length_map, decide_true, decide_false, ne_eq, not_true_eq_false, not_false_eq_true, weaks_items, Int.lt_irrefl, Int.le_refl, hx, hw] <;> rfl) ?_
          refine Run.cond (by simp only [go_sem, ↓reduceIte, Nat.reduceEqDiff, Nat.reduceLT, Nat.reduceLeDiff, Nat.reduceAdd, Int.natCast_nonneg, Int.ofNat_lt, List.length_map, decide_true, decide_false, ne_eq, not_true_eq_false, not_false_eq_true, weaks_items, Int.lt_irrefl, Int.le_refl, hx, hw] <;> rfl) (fun hc8 => ?_) (fun hc8 => ?_)
          · cases hc8
          · have hc := hc8
            refine Run.skip ?_
            refine Run.seq ?_
            have hX9 : s9.blk s3.nxt = some (.row 24 [.agg [.int .i64 a.kind, .int .i64 a.t, .int .i64 a.key]]) := by
              rw [m9.rest s3.nxt (by rw [nxt_new]; omega) (fun e => ?_) (fun e => ?_), hX4]
              · have := P3.hold.lt P3.wf; omega
              · have := P3.hold.list_lt P3.wf e; omega
            have hgr2 : Grows s9 kw (w.map Item.pv).length 3 := by
              rw [List.length_map]
              exact P4.grow.mono fun t ht => m9.rest t (P4.tok t 3 ht) (P4.grow.hne P4.hold ht).1 (P4.grow.hne P4.hold ht).2
            refine Run.region ?_
            refine RunO.ops (pre := [_, _, _, _, _, _, _]) (by simp only [go_sem, ↓reduceIte, Nat.reduceEqDiff, Nat.reduceLT, Nat.reduceLeDiff, Nat.reduceAdd, Int.natCast_nonneg, Int.ofNat_lt, List.length_map, decide_true, decide_false, ne_eq, not_true_eq_false, not_false_eq_true, weaks_items, Int.lt_irrefl, Int.le_refl, hx, hw, hX9] <;> rfl) ?_
            refine RunO.lit (by simp only [go_sem, ↓reduceIte, Nat.reduceEqDiff, Nat.reduceLT, Nat.reduceLeDiff, Nat.reduceAdd, Int.natCast_nonneg, Int.ofNat_lt, List.length_map, decide_true, decide_false, ne_eq, not_true_eq_false, not_false_eq_true, weaks_items, Int.lt_irrefl, Int.le_refl, hx, hw, hX9] <;> rfl) (by simp only [go_sem, ↓reduceIte, Nat.reduceEqDiff, Nat.reduceLT, Nat.reduceLeDiff, Nat.reduceAdd, Int.natCast_nonneg, Int.ofNat_lt, List.length_map, decide_true, decide_false, ne_eq, not_true_eq_false, not_false_eq_true, weaks_items, Int.lt_irrefl, Int.le_refl, hx, hw, hX9] <;> rfl) ?_
            refine RunO.grow (by simp only [go_sem, ↓reduceIte, Nat.reduceEqDiff, Nat.reduceLT, Nat.reduceLeDiff, Nat.reduceAdd, Int.natCast_nonneg, Int.ofNat_lt, List.length_map, decide_true, decide_false, ne_eq, not_true_eq_false, not_false_eq_true, weaks_items, Int.lt_irrefl, Int.le_refl, hx, hw, hX9] <;> rfl) (by simp only [go_sem, ↓reduceIte, Nat.reduceEqDiff, Nat.reduceLT, Nat.reduceLeDiff, Nat.reduceAdd, Int.natCast_nonneg, Int.ofNat_lt, List.length_map, decide_true, decide_false, ne_eq, not_true_eq_false, not_false_eq_true, weaks_items, Int.lt_irrefl, Int.le_refl, hx, hw, hX9] <;> rfl) (by simp only [go_sem, ↓reduceIte, Nat.reduceEqDiff, Nat.reduceLT, Nat.reduceLeDiff, Nat.reduceAdd, Int.natCast_nonneg, Int.ofNat_lt, List.length_map, decide_true, decide_false, ne_eq, not_true_eq_false, not_false_eq_true, weaks_items, Int.lt_irrefl, Int.le_refl, hx, hw, hX9] <;> rfl) Try.td32 (by rw [Try.zp37]; rfl) (isEls_items _) (isEls_item ⟨a.t, o, a.key⟩) (by rw [Try.by37]; decide) (by rw [Try.by37]; simp; omega) (by rw [Try.cz37]; exact hgr2) (by simp) ?_
            intro kk' s' hgr' htm
            refine RunO.all (by simp only [go_sem, ↓reduceIte, Nat.reduceEqDiff, Nat.reduceLT, Nat.reduceLeDiff, Nat.reduceAdd, Int.natCast_nonneg, Int.ofNat_lt, List.length_map, decide_true, decide_false, ne_eq, not_true_eq_false, not_false_eq_true, weaks_items, Int.lt_irrefl, Int.le_refl, hx, hw, hX9] <;> rfl) ?_
            refine RunO.live' [0, 3, 4, 5, 6] (by simp only [go_sem, ↓reduceIte, Nat.reduceEqDiff, Nat.reduceLT, Nat.reduceLeDiff, Nat.reduceAdd, Int.natCast_nonneg, Int.ofNat_lt, List.length_map, decide_true, decide_false, ne_eq, not_true_eq_false, not_false_eq_true, weaks_items, Int.lt_irrefl, Int.le_refl, hx, hw, hX9] <;> rfl) ?_
            have hwo : IntKind.i64.wrap ((o : Int) + 1) = ((o + 1 : Nat) : Int) := by rw [wrap_i64 (by omega)]; omega
            refine Run.region ?_
            refine RunO.all (by simp only [go_sem, ↓reduceIte, Nat.reduceEqDiff, Nat.reduceLT, Nat.reduceLeDiff, Nat.reduceAdd, Int.natCast_nonneg, Int.ofNat_lt, List.length_map, decide_true, decide_false, ne_eq, not_true_eq_false, not_false_eq_true, weaks_items, Int.lt_irrefl, Int.le_refl, hx, hw, hX9, hwo] <;> rfl) ?_
            refine RunO.live' [0, 3, 4, 5, 6] (by simp only [go_sem, ↓reduceIte, Nat.reduceEqDiff, Nat.reduceLT, Nat.reduceLeDiff, Nat.reduceAdd, Int.natCast_nonneg, Int.ofNat_lt, List.length_map, decide_true, decide_false, ne_eq, not_true_eq_false, not_false_eq_true, weaks_items, Int.lt_irrefl, Int.le_refl, hx, hw, hX9, hwo] <;> rfl) ?_
            refine Run.blk ?_
            rw [Try.cz37] at hgr'
            exact hJb2 _ _ ⟨xs9, w ++ [⟨a.t, o, a.key⟩], L9, kk', o + 1, by rw [List.map_append]; rfl, PInv.put wf9 A9 (p9.trans (P4.perm.append_right _)) (by rwa [List.length_map] at hgr2) (fun t z e => Nat.lt_of_lt_of_le (P4.tok t z e) m9.nxt) htm (by simpa using hgr') P4.nd P4.lo P4.tk hat, by simp; omega, by omega⟩
  · have hc := hc0
    refine Run.exit ?_
    show Run _ _ _ _ _ _
    refine Run.seq ?_
    refine Run.region ?_
    refine RunO.all (by simp only [go_sem, ↓reduceIte, Nat.reduceEqDiff, Nat.reduceLT, Nat.reduceLeDiff, Nat.reduceAdd, Int.natCast_nonneg, Int.ofNat_lt, List.length_map, decide_true, decide_false, ne_eq, not_true_eq_false, not_false_eq_true, weaks_items, Int.lt_irrefl, Int.le_refl] <;> rfl) ?_
    refine RunO.live' [2] (by simp only [go_sem, ↓reduceIte, Nat.reduceEqDiff, Nat.reduceLT, Nat.reduceLeDiff, Nat.reduceAdd, Int.natCast_nonneg, Int.ofNat_lt, List.length_map, decide_true, decide_false, ne_eq, not_true_eq_false, not_false_eq_true, weaks_items, Int.lt_irrefl, Int.le_refl] <;> rfl) ?_
    refine Run.ret ?_
    exact Ret.all (by simp only [Try.f8, go_sem] <;> rfl) rfl

end Go.Proofs
