import Derived.Test.YtegdcamfhldcoaaH4
namespace Go.Proofs
open Go.PM
set_option maxHeartbeats 1000000
set_option linter.unusedSimpArgs false
set_option linter.unusedVariables false

theorem item_ext {a b : Item} (h1 : a.tick = b.tick) (h2 : a.order = b.order) (h3 : a.key = b.key) : a = b := by
  cases a; cases b; simp_all

theorem items_ext {xs ys : List Item} (hl : xs.length = ys.length) (h : ∀ j, j < xs.length → at0 xs j = at0 ys j) : xs = ys := by
  apply List.ext_getElem hl
  intro j h1 h2
  have := h j h1
  unfold at0 at this
  rw [List.getElem?_eq_getElem h1, List.getElem?_eq_getElem h2] at this
  exact this

theorem first_nil {s : St} {h : Nat} {nx : PV} (hh : s.blk h = some (.row 51 [.agg [.sl .nil [], nx]])) : ACalls Try.prog 19 [.ptr h 0 0] s (fun r s' => r = .tuple [(⟨0, 0, 0⟩ : Item).pv, .bool false] ∧ s' = s) := by
  refine ACalls.body Try.func19 rfl (by simp [Try.f19]) (by decide) fun hwf => ?_
  show Run _ _ [.code _] _ _ _
  have hlt := lt_of_blk hwf hh
  have hh0 : (h = s.nxt) = False := eq_false (by omega)
  have hk0 : (s.nxt = h) = False := eq_false (by omega)
  refine Run.seq ?_
  refine Run.region ?_
  refine RunO.all (by simp only [go_sem, ↓reduceIte, Nat.reduceEqDiff, Nat.reduceLT, Nat.reduceLeDiff, Nat.reduceAdd, hh, hh0, hk0] <;> rfl) ?_
  refine RunO.live' [0, 2] (by simp only [go_sem, ↓reduceIte, Nat.reduceEqDiff, Nat.reduceLT, Nat.reduceLeDiff, Nat.reduceAdd, hh, hh0, hk0] <;> rfl) ?_
  refine Run.seq ?_
  refine Run.seq ?_
  refine Run.region ?_
  refine RunO.all (by simp only [go_sem, ↓reduceIte, Nat.reduceEqDiff, Nat.reduceLT, Nat.reduceLeDiff, Nat.reduceAdd, hh, hh0, hk0] <;> rfl) ?_
  refine RunO.live' [0, 2, 9] (by simp only [go_sem, ↓reduceIte, Nat.reduceEqDiff, Nat.reduceLT, Nat.reduceLeDiff, Nat.reduceAdd, hh, hh0, hk0] <;> rfl) ?_
  refine Run.cond (by simp only [go_sem, ↓reduceIte, Nat.reduceEqDiff, Nat.reduceLT, Nat.reduceLeDiff, Nat.reduceAdd, hh, hh0, hk0] <;> rfl) (fun hc0 => ?_) (fun hc0 => ?_)
  · have hc := hc0
    refine Run.seq ?_
    refine Run.region ?_
    refine RunO.all (by simp only [go_sem, ↓reduceIte, Nat.reduceEqDiff, Nat.reduceLT, Nat.reduceLeDiff, Nat.reduceAdd, hh, hh0, hk0] <;> rfl) ?_
    refine RunO.live' [2, 3] (by simp only [go_sem, ↓reduceIte, Nat.reduceEqDiff, Nat.reduceLT, Nat.reduceLeDiff, Nat.reduceAdd, hh, hh0, hk0] <;> rfl) ?_
    refine Run.ret ?_
    refine Ret.pure (by simp only [Try.f19, go_sem, hk0, ↓reduceIte] <;> rfl) rfl (by simp only [go_sem]) hwf (fun i hi => ?_) ⟨rfl, rfl⟩
    have h1 : (i = s.nxt) = False := eq_false (by omega)
    try simp only [go_sem, h1]
  · cases hc0

theorem due_nil {s : St} {h : Nat} {nx : PV} {now : Int} (hh : s.blk h = some (.row 51 [.agg [.sl .nil [], nx]])) : ACalls Try.prog 13 [.ptr h 0 0, .int .i64 now] s (fun r s' => r = .sl .unk [] ∧ s' = s) := by
  refine ACalls.body Try.func13 rfl (by simp [Try.f13]) (by decide) fun hwf => ?_
  show Run _ _ [.code _] _ _ _
  refine Run.seq ?_
  refine Run.region ?_
  refine RunO.all (by simp only [go_sem, ↓reduceIte, Nat.reduceEqDiff, Nat.reduceLT, Nat.reduceLeDiff, Nat.reduceAdd, hh] <;> rfl) ?_
  refine RunO.live' [0, 1] (by simp only [go_sem, ↓reduceIte, Nat.reduceEqDiff, Nat.reduceLT, Nat.reduceLeDiff, Nat.reduceAdd, hh] <;> rfl) ?_
  refine Run.seq ?_
  refine Run.region ?_
  refine RunO.all (by simp only [go_sem, ↓reduceIte, Nat.reduceEqDiff, Nat.reduceLT, Nat.reduceLeDiff, Nat.reduceAdd, hh] <;> rfl) ?_
  refine RunO.live' [0, 1, 5] (by simp only [go_sem, ↓reduceIte, Nat.reduceEqDiff, Nat.reduceLT, Nat.reduceLeDiff, Nat.reduceAdd, hh] <;> rfl) ?_
  refine Run.seq ?_
  refine Run.block ?_
  -- loop 0, live [0, 1, 5]
  refine Run.loop (fun e s' => e = [(0, .ptr h 0 0), (1, .int .i64 now), (5, .sl .nil [])] ∧ s' = s) (fun e s' => 0) ?_ ?_
  · exact ⟨rfl, rfl⟩
  rintro e s' ⟨rfl, hs⟩
  subst s'
  refine Run.seq ?_
  refine Run.seq ?_
  refine Run.region ?_
  refine RunO.ops (pre := [_, _, _, _, _, _, _]) (by simp only [go_sem, ↓reduceIte, Nat.reduceEqDiff, Nat.reduceLT, Nat.reduceLeDiff, Nat.reduceAdd, hh] <;> rfl) ?_
  refine RunO.bcase 14 (by simp only [go_sem, ↓reduceIte, Nat.reduceEqDiff, Nat.reduceLT, Nat.reduceLeDiff, Nat.reduceAdd, hh] <;> rfl) (fun hg6 => ?_) (fun hg6 => ?_)
  · cases hg6
  · refine RunO.gskip' (by simp only [go_sem, ↓reduceIte, Nat.reduceEqDiff, Nat.reduceLT, Nat.reduceLeDiff, Nat.reduceAdd, hh] <;> rfl) ?_
    refine RunO.gskip' (by simp only [go_sem, ↓reduceIte, Nat.reduceEqDiff, Nat.reduceLT, Nat.reduceLeDiff, Nat.reduceAdd, hh] <;> rfl) ?_
    refine RunO.gskip' (by simp only [go_sem, ↓reduceIte, Nat.reduceEqDiff, Nat.reduceLT, Nat.reduceLeDiff, Nat.reduceAdd, hh] <;> rfl) ?_
    refine RunO.gskip' (by simp only [go_sem, ↓reduceIte, Nat.reduceEqDiff, Nat.reduceLT, Nat.reduceLeDiff, Nat.reduceAdd, hh] <;> rfl) ?_
    refine RunO.gskip' (by simp only [go_sem, ↓reduceIte, Nat.reduceEqDiff, Nat.reduceLT, Nat.reduceLeDiff, Nat.reduceAdd, hh] <;> rfl) ?_
    refine RunO.gskip' (by simp only [go_sem, ↓reduceIte, Nat.reduceEqDiff, Nat.reduceLT, Nat.reduceLeDiff, Nat.reduceAdd, hh] <;> rfl) ?_
    refine RunO.gskip' (by simp only [go_sem, ↓reduceIte, Nat.reduceEqDiff, Nat.reduceLT, Nat.reduceLeDiff, Nat.reduceAdd, hh] <;> rfl) ?_
    refine RunO.gskip' (by simp only [go_sem, ↓reduceIte, Nat.reduceEqDiff, Nat.reduceLT, Nat.reduceLeDiff, Nat.reduceAdd, hh] <;> rfl) ?_
    refine RunO.gskip' (by simp only [go_sem, ↓reduceIte, Nat.reduceEqDiff, Nat.reduceLT, Nat.reduceLeDiff, Nat.reduceAdd, hh] <;> rfl) ?_
    refine RunO.all (by simp only [go_sem, ↓reduceIte, Nat.reduceEqDiff, Nat.reduceLT, Nat.reduceLeDiff, Nat.reduceAdd, hh] <;> rfl) ?_
    refine RunO.live' [0, 1, 5, 24] (by simp only [go_sem, ↓reduceIte, Nat.reduceEqDiff, Nat.reduceLT, Nat.reduceLeDiff, Nat.reduceAdd, hh] <;> rfl) ?_
    refine Run.cond (by simp only [go_sem, ↓reduceIte, Nat.reduceEqDiff, Nat.reduceLT, Nat.reduceLeDiff, Nat.reduceAdd, hh] <;> rfl) (fun hc0 => ?_) (fun hc0 => ?_)
    · cases hc0
    · have hc := hc0
      refine Run.exit ?_
      show Run _ _ _ _ _ _
      refine Run.seq ?_
      refine Run.region ?_
      refine RunO.ops (pre := [_]) (by simp only [go_sem, ↓reduceIte, Nat.reduceEqDiff, Nat.reduceLT, Nat.reduceLeDiff, Nat.reduceAdd, hh] <;> rfl) ?_
      refine RunO.callw (by simp only [go_sem, ↓reduceIte, Nat.reduceEqDiff, Nat.reduceLT, Nat.reduceLeDiff, Nat.reduceAdd, hh] <;> rfl) (by simp only [go_sem, ↓reduceIte, Nat.reduceEqDiff, Nat.reduceLT, Nat.reduceLeDiff, Nat.reduceAdd, hh] <;> rfl) (by simp only [go_sem, ↓reduceIte, Nat.reduceEqDiff, Nat.reduceLT, Nat.reduceLeDiff, Nat.reduceAdd, hh] <;> rfl) (by kernel_rfl) ((clip (xs := [])).mono ?_)
      rintro r1 s1 ⟨rfl, hs⟩
      subst s1
      refine RunO.all (by simp only [go_sem, ↓reduceIte, Nat.reduceEqDiff, Nat.reduceLT, Nat.reduceLeDiff, Nat.reduceAdd, hh] <;> rfl) ?_
      refine RunO.live' [4] (by simp only [go_sem, ↓reduceIte, Nat.reduceEqDiff, Nat.reduceLT, Nat.reduceLeDiff, Nat.reduceAdd, hh] <;> rfl) ?_
      refine Run.ret ?_
      exact Ret.all (by simp only [Try.f13, go_sem] <;> rfl) ⟨rfl, rfl⟩


theorem filter_split {out rest xs : List Item} {now : Int} (hp : (out ++ rest).Perm xs) (h1 : ∀ a ∈ out, a.tick ≤ now) (h2 : ∀ a ∈ rest, now < a.tick) :
    out.Perm (xs.filter (fun a => decide (a.tick ≤ now))) ∧ rest.Perm (xs.filter (fun a => decide (now < a.tick))) := by
  have a1 := hp.filter (fun a => decide (a.tick ≤ now))
  have a2 := hp.filter (fun a => decide (now < a.tick))
  rw [List.filter_append] at a1 a2
  rw [List.filter_eq_self.2 (fun a ha => by simpa using h1 a ha), List.filter_eq_nil_iff.2 (fun a ha => by have := h2 a ha; simp; omega), List.append_nil] at a1
  rw [List.filter_eq_nil_iff.2 (fun a ha => by have := h1 a ha; simp; omega), List.filter_eq_self.2 (fun a ha => by simpa using h2 a ha), List.nil_append] at a2
  exact ⟨a1, a2⟩

theorem hold_Due {s : St} {h : Nat} {xs : List Item} {next now : Int} {L : Option Nat} (hH : HoldAt s h xs next L) (hsz : xs.length < 1000000) :
    ACalls Try.prog 13 [.ptr h 0 0, .int .i64 now] s (fun r s' => ∃ (out xs' : List Item), r = .sl .unk (out.map Item.pv) ∧ HoldAt s' h xs' next L ∧ Moves s s' h L L ∧ out.Perm (xs.filter (fun a => decide (a.tick ≤ now))) ∧
      xs'.Perm (xs.filter (fun a => decide (now < a.tick))) ∧ out.Pairwise (fun a b => b.lt a = false)) := by
  cases L with
  | none =>
    obtain ⟨rfl, h2⟩ := hH
    refine (due_nil h2).mono ?_
    rintro r s' ⟨rfl, rfl⟩
    exact ⟨[], [], rfl, ⟨rfl, h2⟩, ⟨Nat.le_refl _, fun _ _ _ _ => rfl, fun l e => .inl e⟩, .refl _, .refl _, .nil⟩
  | some L =>
    obtain ⟨h1, zs, h2, h3, h4, h5, h6⟩ := hH
    refine (due_own h2 h3 h1 h4 hsz h6).mono ?_
    rintro r s' ⟨out, ys, n, rfl, k1, k2, k3, k4, k5, k6, k7, k8, k9, k10⟩
    rw [h5] at k5
    obtain ⟨p1, p2⟩ := filter_split k5 k7 k8
    have hl : (ys.take n).length = n := by simp; omega
    exact ⟨out, ys.take n, rfl, ⟨h1, ys, by rw [hl]; exact k1, k2, by omega, by rw [hl], by rw [hl]; exact k4⟩, ⟨k9, fun i hi j1 j2 => k10 i hi j1 (fun e => j2 (by rw [e])), fun l e => .inl e⟩, p1, p2, k6⟩

theorem hold_Drop {s : St} {h : Nat} {xs : List Item} {next key : Int} {L : Option Nat} (hH : HoldAt s h xs next L) (hsz : xs.length < 1000000) :
    ACalls Try.prog 16 [.ptr h 0 0, .int .i64 key] s (fun r s' => ∃ (xs' : List Item), r = .int .i64 ((xs.length : Int) - xs'.length) ∧ HoldAt s' h xs' next L ∧ Moves s s' h L L ∧ xs'.Perm (keepF key xs)) := by
  cases L with
  | none =>
    obtain ⟨rfl, h2⟩ := hH
    refine (drop_nil h2).mono ?_
    rintro r s' ⟨rfl, k1, k2, k3⟩
    exact ⟨[], rfl, ⟨rfl, k1⟩, ⟨k2, fun i hi j1 _ => k3 i hi j1, fun l e => .inl e⟩, .refl _⟩
  | some L =>
    obtain ⟨h1, zs, h2, h3, h4, h5, h6⟩ := hH
    refine (drop_own h2 h3 h1 h4 hsz).mono ?_
    rintro r s' ⟨m, ys, rfl, k1, k2, k3, k4, k5, k6, k7, k8⟩
    rw [h5] at k5
    have hl : (ys.take m).length = m := by simp; omega
    exact ⟨ys.take m, by rw [hl], ⟨h1, ys, by rw [hl]; exact k1, k2, by omega, by rw [hl], by rw [hl]; exact k6⟩, ⟨k7, fun i hi j1 j2 => k8 i hi j1 (fun e => j2 (by rw [e])), fun l e => .inl e⟩, k5⟩

theorem hold_First {s : St} {h : Nat} {xs : List Item} {next : Int} {L : Option Nat} (hH : HoldAt s h xs next L) :
    ACalls Try.prog 19 [.ptr h 0 0] s (fun r s' => s' = s ∧ ∃ x : Item, r = .tuple [x.pv, .bool (decide (xs ≠ []))] ∧ (xs = [] ∧ x = ⟨0, 0, 0⟩ ∨ x ∈ xs ∧ ∀ a ∈ xs, a.lt x = false)) := by
  cases L with
  | none =>
    obtain ⟨rfl, h2⟩ := hH
    refine (first_nil h2).mono ?_
    rintro r s' ⟨rfl, rfl⟩
    exact ⟨rfl, _, rfl, .inl ⟨rfl, rfl⟩⟩
  | some L =>
    obtain ⟨h1, zs, h2, h3, h4, h5, h6⟩ := hH
    refine (first_own h2 h3 h4).mono ?_
    rintro r s' ⟨rfl, rfl⟩
    refine ⟨rfl, if xs.length = 0 then ⟨0, 0, 0⟩ else at0 zs 0, ?_, ?_⟩
    · have e : (decide (xs.length ≠ 0)) = decide (xs ≠ []) := by
        cases xs <;> simp
      rw [e]
      split <;> rfl
    · by_cases hx : xs.length = 0
      · rw [if_pos hx]
        exact .inl ⟨List.length_eq_zero_iff.1 hx, rfl⟩
      · rw [if_neg hx]
        refine .inr ⟨?_, fun a ha => h6.least (by rw [h5]; exact ha)⟩
        rw [← h5]
        have hz : 0 < zs.length := by omega
        have : at0 zs 0 = (zs.take xs.length)[0]'(by simp; omega) := by
          unfold at0
          rw [List.getElem_take, List.getElem?_eq_getElem hz]; rfl
        rw [this]
        exact List.getElem_mem _

theorem before_ {a b : Item} {s : St} : ACalls Try.prog 15 [a.pv, b.pv] s (fun r s' => r = .bool (a.lt b) ∧ s' = s) := by
  refine ACalls.body Try.func15 rfl (by simp [Try.f15]) (by decide) fun hwf => ?_
  show Run _ _ [.code _] _ _ _
  refine Run.seq ?_
  refine Run.region ?_
  refine RunO.all (by simp only [go_sem, ↓reduceIte, Nat.reduceEqDiff, Nat.reduceLT, Nat.reduceLeDiff, Nat.reduceAdd, Item.pv] <;> rfl) ?_
  refine RunO.live' [2, 3] (by simp only [go_sem, ↓reduceIte, Nat.reduceEqDiff, Nat.reduceLT, Nat.reduceLeDiff, Nat.reduceAdd, Item.pv] <;> rfl) ?_
  refine Run.seq ?_
  refine Run.region ?_
  refine RunO.ops (pre := [_, _, _, _, _, _]) (by simp only [go_sem, ↓reduceIte, Nat.reduceEqDiff, Nat.reduceLT, Nat.reduceLeDiff, Nat.reduceAdd, Item.pv] <;> rfl) ?_
  refine RunO.bcase 10 (by simp only [go_sem, ↓reduceIte, Nat.reduceEqDiff, Nat.reduceLT, Nat.reduceLeDiff, Nat.reduceAdd, Item.pv] <;> rfl) (fun hg5 => ?_) (fun hg5 => ?_)
  · refine RunO.gskip' (by simp only [go_sem, ↓reduceIte, Nat.reduceEqDiff, Nat.reduceLT, Nat.reduceLeDiff, Nat.reduceAdd, Item.pv] <;> rfl) ?_
    refine RunO.gskip' (by simp only [go_sem, ↓reduceIte, Nat.reduceEqDiff, Nat.reduceLT, Nat.reduceLeDiff, Nat.reduceAdd, Item.pv] <;> rfl) ?_
    refine RunO.gskip' (by simp only [go_sem, ↓reduceIte, Nat.reduceEqDiff, Nat.reduceLT, Nat.reduceLeDiff, Nat.reduceAdd, Item.pv] <;> rfl) ?_
    refine RunO.gskip' (by simp only [go_sem, ↓reduceIte, Nat.reduceEqDiff, Nat.reduceLT, Nat.reduceLeDiff, Nat.reduceAdd, Item.pv] <;> rfl) ?_
    refine RunO.gskip' (by simp only [go_sem, ↓reduceIte, Nat.reduceEqDiff, Nat.reduceLT, Nat.reduceLeDiff, Nat.reduceAdd, Item.pv] <;> rfl) ?_
    refine RunO.gskip' (by simp only [go_sem, ↓reduceIte, Nat.reduceEqDiff, Nat.reduceLT, Nat.reduceLeDiff, Nat.reduceAdd, Item.pv] <;> rfl) ?_
    refine RunO.gskipU (by simp only [go_sem, ↓reduceIte, Nat.reduceEqDiff, Nat.reduceLT, Nat.reduceLeDiff, Nat.reduceAdd, Item.pv] <;> rfl) ?_
    refine RunO.gskipU (by simp only [go_sem, ↓reduceIte, Nat.reduceEqDiff, Nat.reduceLT, Nat.reduceLeDiff, Nat.reduceAdd, Item.pv] <;> rfl) ?_
    refine RunO.gskipU (by simp only [go_sem, ↓reduceIte, Nat.reduceEqDiff, Nat.reduceLT, Nat.reduceLeDiff, Nat.reduceAdd, Item.pv] <;> rfl) ?_
    refine RunO.gskipU (by simp only [go_sem, ↓reduceIte, Nat.reduceEqDiff, Nat.reduceLT, Nat.reduceLeDiff, Nat.reduceAdd, Item.pv] <;> rfl) ?_
    refine RunO.gskipU (by simp only [go_sem, ↓reduceIte, Nat.reduceEqDiff, Nat.reduceLT, Nat.reduceLeDiff, Nat.reduceAdd, Item.pv] <;> rfl) ?_
    refine RunO.gskip' (by simp only [go_sem, ↓reduceIte, Nat.reduceEqDiff, Nat.reduceLT, Nat.reduceLeDiff, Nat.reduceAdd, Item.pv] <;> rfl) ?_
    refine RunO.all (by simp only [go_sem, ↓reduceIte, Nat.reduceEqDiff, Nat.reduceLT, Nat.reduceLeDiff, Nat.reduceAdd, Item.pv] <;> rfl) ?_
    refine RunO.live' [4] (by simp only [go_sem, ↓reduceIte, Nat.reduceEqDiff, Nat.reduceLT, Nat.reduceLeDiff, Nat.reduceAdd, Item.pv] <;> rfl) ?_
    refine Run.ret ?_
    refine Ret.pure (by simp only [Try.f15, go_sem]; rfl) rfl (by simp only [go_sem]) hwf (fun i hi => ?_) ⟨?_, rfl⟩
    · have h0 : ∀ n, (i = s.nxt + n) = False := fun n => eq_false (by omega)
      have h1 : (i = s.nxt) = False := eq_false (by omega)
      try simp only [go_sem, h0, h1]
    · simp only [Item.lt]
      simp at hg5
      by_cases h1 : a.tick < b.tick <;> by_cases h2 : a.tick = b.tick <;> by_cases h3 : a.order < b.order <;> simp [h1, h2, h3, PV.weak] <;> omega
  · refine RunO.gdo (by simp only [go_sem, ↓reduceIte, Nat.reduceEqDiff, Nat.reduceLT, Nat.reduceLeDiff, Nat.reduceAdd, Item.pv] <;> rfl) (by simp only [go_sem, ↓reduceIte, Nat.reduceEqDiff, Nat.reduceLT, Nat.reduceLeDiff, Nat.reduceAdd, Item.pv] <;> rfl) ?_
    refine RunO.gdo (by simp only [go_sem, ↓reduceIte, Nat.reduceEqDiff, Nat.reduceLT, Nat.reduceLeDiff, Nat.reduceAdd, Item.pv] <;> rfl) (by simp only [go_sem, ↓reduceIte, Nat.reduceEqDiff, Nat.reduceLT, Nat.reduceLeDiff, Nat.reduceAdd, Item.pv] <;> rfl) ?_
    refine RunO.gdo (by simp only [go_sem, ↓reduceIte, Nat.reduceEqDiff, Nat.reduceLT, Nat.reduceLeDiff, Nat.reduceAdd, Item.pv] <;> rfl) (by simp only [go_sem, ↓reduceIte, Nat.reduceEqDiff, Nat.reduceLT, Nat.reduceLeDiff, Nat.reduceAdd, Item.pv] <;> rfl) ?_
    refine RunO.gdo (by simp only [go_sem, ↓reduceIte, Nat.reduceEqDiff, Nat.reduceLT, Nat.reduceLeDiff, Nat.reduceAdd, Item.pv] <;> rfl) (by simp only [go_sem, ↓reduceIte, Nat.reduceEqDiff, Nat.reduceLT, Nat.reduceLeDiff, Nat.reduceAdd, Item.pv] <;> rfl) ?_
    refine RunO.gdo (by simp only [go_sem, ↓reduceIte, Nat.reduceEqDiff, Nat.reduceLT, Nat.reduceLeDiff, Nat.reduceAdd, Item.pv] <;> rfl) (by simp only [go_sem, ↓reduceIte, Nat.reduceEqDiff, Nat.reduceLT, Nat.reduceLeDiff, Nat.reduceAdd, Item.pv] <;> rfl) ?_
    refine RunO.gdo (by simp only [go_sem, ↓reduceIte, Nat.reduceEqDiff, Nat.reduceLT, Nat.reduceLeDiff, Nat.reduceAdd, Item.pv] <;> rfl) (by simp only [go_sem, ↓reduceIte, Nat.reduceEqDiff, Nat.reduceLT, Nat.reduceLeDiff, Nat.reduceAdd, Item.pv] <;> rfl) ?_
    refine RunO.ops (pre := [_, _, _, _, _]) (by simp only [go_sem, ↓reduceIte, Nat.reduceEqDiff, Nat.reduceLT, Nat.reduceLeDiff, Nat.reduceAdd, Item.pv] <;> rfl) ?_
    refine RunO.gdo (by simp only [go_sem, ↓reduceIte, Nat.reduceEqDiff, Nat.reduceLT, Nat.reduceLeDiff, Nat.reduceAdd, Item.pv] <;> rfl) (by simp only [go_sem, ↓reduceIte, Nat.reduceEqDiff, Nat.reduceLT, Nat.reduceLeDiff, Nat.reduceAdd, Item.pv] <;> rfl) ?_
    refine RunO.all (by simp only [go_sem, ↓reduceIte, Nat.reduceEqDiff, Nat.reduceLT, Nat.reduceLeDiff, Nat.reduceAdd, Item.pv] <;> rfl) ?_
    refine RunO.live' [4] (by simp only [go_sem, ↓reduceIte, Nat.reduceEqDiff, Nat.reduceLT, Nat.reduceLeDiff, Nat.reduceAdd, Item.pv] <;> rfl) ?_
    refine Run.ret ?_
    refine Ret.pure (by simp only [Try.f15, go_sem]; rfl) rfl (by simp only [go_sem]) hwf (fun i hi => ?_) ⟨?_, rfl⟩
    · have h0 : ∀ n, (i = s.nxt + n) = False := fun n => eq_false (by omega)
      have h1 : (i = s.nxt) = False := eq_false (by omega)
      try simp only [go_sem, h0, h1]
    · simp only [Item.lt]
      simp at hg5
      by_cases h1 : a.tick < b.tick <;> by_cases h2 : a.tick = b.tick <;> by_cases h3 : a.order < b.order <;> simp [h1, h2, h3, PV.weak] <;> omega

theorem same_ {xs ys : List Item} {s : St} (hsz : xs.length < 1000000000) : ACalls Try.prog 17 [.sl .unk (xs.map Item.pv), .sl .unk (ys.map Item.pv)] s (fun r s' => r = .bool (decide (xs = ys)) ∧ s' = s) := by
  refine ACalls.body Try.func17 rfl (by simp [Try.f17]) (by decide) fun hwf => ?_
  show Run _ _ [.code _] _ _ _
  refine Run.seq ?_
  refine Run.region ?_
  refine RunO.all (by simp only [go_sem, ↓reduceIte, Nat.reduceEqDiff, Nat.reduceLT, Nat.reduceLeDiff, Nat.reduceAdd, Int.natCast_nonneg, List.length_map] <;> rfl) ?_
  refine RunO.live' [0, 1] (by simp only [go_sem, ↓reduceIte, Nat.reduceEqDiff, Nat.reduceLT, Nat.reduceLeDiff, Nat.reduceAdd, Int.natCast_nonneg, List.length_map] <;> rfl) ?_
  refine Run.seq ?_
  refine Run.seq ?_
  refine Run.region ?_
  refine RunO.all (by simp only [go_sem, ↓reduceIte, Nat.reduceEqDiff, Nat.reduceLT, Nat.reduceLeDiff, Nat.reduceAdd, Int.natCast_nonneg, List.length_map] <;> rfl) ?_
  refine RunO.live' [0, 1, 10] (by simp only [go_sem, ↓reduceIte, Nat.reduceEqDiff, Nat.reduceLT, Nat.reduceLeDiff, Nat.reduceAdd, Int.natCast_nonneg, List.length_map] <;> rfl) ?_
  refine Run.cond (by simp only [go_sem, ↓reduceIte, Nat.reduceEqDiff, Nat.reduceLT, Nat.reduceLeDiff, Nat.reduceAdd, Int.natCast_nonneg, List.length_map] <;> rfl) (fun hc0 => ?_) (fun hc0 => ?_)
  · have hc := hc0
    refine Run.seq ?_
    refine Run.region ?_
    refine RunO.all (by simp only [go_sem, ↓reduceIte, Nat.reduceEqDiff, Nat.reduceLT, Nat.reduceLeDiff, Nat.reduceAdd, Int.natCast_nonneg, List.length_map] <;> rfl) ?_
    refine RunO.live' [4] (by simp only [go_sem, ↓reduceIte, Nat.reduceEqDiff, Nat.reduceLT, Nat.reduceLeDiff, Nat.reduceAdd, Int.natCast_nonneg, List.length_map] <;> rfl) ?_
    refine Run.ret ?_
    refine Ret.pure (by simp only [Try.f17, go_sem]; rfl) rfl (by simp only [go_sem]) hwf (fun i hi => ?_) ⟨?_, rfl⟩
    · have h0 : ∀ n, (i = s.nxt + n) = False := fun n => eq_false (by omega)
      have h1 : (i = s.nxt) = False := eq_false (by omega)
      try simp only [go_sem, h0, h1]
    · first
        | (have hne : xs ≠ ys := by rintro rfl; simp at hc0
           rw [decide_eq_false hne]; rfl)
        | (have hne : xs ≠ ys := by rintro rfl; simp at hc2
           rw [decide_eq_false hne]; rfl)
        | (rw [decide_eq_true (items_ext hlen (fun j hj => hbe j (by simp at hc1; omega)))]; rfl)
  · have hc := hc0
    refine Run.skip ?_
    refine Run.seq ?_
    refine Run.seq ?_
    have hlen : xs.length = ys.length := by simp at hc0; omega
    refine Run.region ?_
    refine RunO.all (by simp only [go_sem, ↓reduceIte, Nat.reduceEqDiff, Nat.reduceLT, Nat.reduceLeDiff, Nat.reduceAdd, Int.natCast_nonneg, List.length_map] <;> rfl) ?_
    refine RunO.live' [0, 1, 5] (by simp only [go_sem, ↓reduceIte, Nat.reduceEqDiff, Nat.reduceLT, Nat.reduceLeDiff, Nat.reduceAdd, Int.natCast_nonneg, List.length_map] <;> rfl) ?_
    refine Run.block ?_
    -- loop 0, live [0, 1, 5]
    refine Run.loop (fun e s' => s' = s ∧ ∃ i : Nat, e = [(0, .sl .unk (xs.map Item.pv)), (1, .sl .unk (ys.map Item.pv)), (5, .int .i64 i)] ∧ i ≤ xs.length ∧ ∀ j, j < i → at0 xs j = at0 ys j) (fun e s' => xs.length - ivar e 5) ?_ ?_
    · exact ⟨rfl, 0, rfl, by omega, fun j hj => by omega⟩
    rintro e s' ⟨hs, i, rfl, hi, hbe⟩
    subst s'
    refine Run.seq ?_
    refine Run.seq ?_
    refine Run.region ?_
    refine RunO.all (by simp only [go_sem, ↓reduceIte, Nat.reduceEqDiff, Nat.reduceLT, Nat.reduceLeDiff, Nat.reduceAdd, Int.natCast_nonneg, List.length_map] <;> rfl) ?_
    refine RunO.live' [0, 1, 5, 14] (by simp only [go_sem, ↓reduceIte, Nat.reduceEqDiff, Nat.reduceLT, Nat.reduceLeDiff, Nat.reduceAdd, Int.natCast_nonneg, List.length_map] <;> rfl) ?_
    refine Run.cond (by simp only [go_sem, ↓reduceIte, Nat.reduceEqDiff, Nat.reduceLT, Nat.reduceLeDiff, Nat.reduceAdd, Int.natCast_nonneg, List.length_map] <;> rfl) (fun hc1 => ?_) (fun hc1 => ?_)
    · have hc := hc1
      refine Run.skip ?_
      refine Run.seq ?_
      refine Run.block ?_
      refine Run.seq ?_
      have hil : i < xs.length := by simp at hc1; omega
      have hx : (xs.map Item.pv)[i]? = some (.agg [.int .i64 (at0 xs i).tick, .int .i64 (at0 xs i).order, .int .i64 (at0 xs i).key]) := map_at0 (by omega)
      have hy : (ys.map Item.pv)[i]? = some (.agg [.int .i64 (at0 ys i).tick, .int .i64 (at0 ys i).order, .int .i64 (at0 ys i).key]) := map_at0 (by omega)
      refine Run.drawC [] [0, 1, 5, 25] Try.mixed (by kernel_rfl) ?_
      refine DetC.all (by simp only [go_sem, ↓reduceIte, Nat.reduceEqDiff, Nat.reduceLT, Nat.reduceLeDiff, Nat.reduceAdd, Int.natCast_nonneg, List.length_map, hx, hy] <;> rfl) ?_
      refine Run.envEq' (by simp only [go_sem, ↓reduceIte, Nat.reduceEqDiff, Nat.reduceLT, Nat.reduceLeDiff, Nat.reduceAdd, Int.natCast_nonneg, List.length_map, hx, hy] <;> rfl) ?_
      refine Run.cond (by simp only [go_sem, ↓reduceIte, Nat.reduceEqDiff, Nat.reduceLT, Nat.reduceLeDiff, Nat.reduceAdd, Int.natCast_nonneg, List.length_map, hx, hy] <;> rfl) (fun hc2 => ?_) (fun hc2 => ?_)
      · have hc := hc2
        refine Run.seq ?_
        refine Run.region ?_
        refine RunO.all (by simp only [go_sem, ↓reduceIte, Nat.reduceEqDiff, Nat.reduceLT, Nat.reduceLeDiff, Nat.reduceAdd, Int.natCast_nonneg, List.length_map, hx, hy] <;> rfl) ?_
        refine RunO.live' [4] (by simp only [go_sem, ↓reduceIte, Nat.reduceEqDiff, Nat.reduceLT, Nat.reduceLeDiff, Nat.reduceAdd, Int.natCast_nonneg, List.length_map, hx, hy] <;> rfl) ?_
        refine Run.ret ?_
        refine Ret.pure (by simp only [Try.f17, go_sem]; rfl) rfl (by simp only [go_sem]) hwf (fun i hi => ?_) ⟨?_, rfl⟩
        · have h0 : ∀ n, (i = s.nxt + n) = False := fun n => eq_false (by omega)
          have h1 : (i = s.nxt) = False := eq_false (by omega)
          try simp only [go_sem, h0, h1]
        · first
            | (have hne : xs ≠ ys := by rintro rfl; simp at hc0
               rw [decide_eq_false hne]; rfl)
            | (have hne : xs ≠ ys := by rintro rfl; simp at hc2
               rw [decide_eq_false hne]; rfl)
            | (rw [decide_eq_true (items_ext hlen (fun j hj => hbe j (by simp at hc1; omega)))]; rfl)
      · have hc := hc2
        refine Run.skip ?_
        refine Run.blk ?_
        refine Run.region ?_
        refine RunO.all (by simp only [go_sem, ↓reduceIte, Nat.reduceEqDiff, Nat.reduceLT, Nat.reduceLeDiff, Nat.reduceAdd, Int.natCast_nonneg, List.length_map, hx, hy] <;> rfl) ?_
        refine RunO.live' [0, 1, 5] (by simp only [go_sem, ↓reduceIte, Nat.reduceEqDiff, Nat.reduceLT, Nat.reduceLeDiff, Nat.reduceAdd, Int.natCast_nonneg, List.length_map, hx, hy] <;> rfl) ?_
        refine Run.lp ⟨⟨rfl, i + 1, by rw [wrap_i64 (by omega)]; rfl, by omega, fun j hj => ?_⟩, ?_⟩
        · by_cases hji : j = i
          · rw [hji]; simp at hc2; exact item_ext hc2.1 hc2.2.1 hc2.2.2
          · exact hbe j (by omega)
        · simp only [ivar, go_sem, ↓reduceIte, Nat.reduceEqDiff]
          rw [wrap_i64 (by omega)]
          omega
    · have hc := hc1
      refine Run.exit ?_
      show Run _ _ _ _ _ _
      refine Run.seq ?_
      refine Run.region ?_
      refine RunO.all (by simp only [go_sem, ↓reduceIte, Nat.reduceEqDiff, Nat.reduceLT, Nat.reduceLeDiff, Nat.reduceAdd, Int.natCast_nonneg, List.length_map] <;> rfl) ?_
      refine RunO.live' [4] (by simp only [go_sem, ↓reduceIte, Nat.reduceEqDiff, Nat.reduceLT, Nat.reduceLeDiff, Nat.reduceAdd, Int.natCast_nonneg, List.length_map] <;> rfl) ?_
      refine Run.ret ?_
      refine Ret.pure (by simp only [Try.f17, go_sem]; rfl) rfl (by simp only [go_sem]) hwf (fun i hi => ?_) ⟨?_, rfl⟩
      · have h0 : ∀ n, (i = s.nxt + n) = False := fun n => eq_false (by omega)
        have h1 : (i = s.nxt) = False := eq_false (by omega)
        try simp only [go_sem, h0, h1]
      · first
          | (have hne : xs ≠ ys := by rintro rfl; simp at hc0
             rw [decide_eq_false hne]; rfl)
          | (have hne : xs ≠ ys := by rintro rfl; simp at hc2
             rw [decide_eq_false hne]; rfl)
          | (rw [decide_eq_true (items_ext hlen (fun j hj => hbe j (by simp at hc1; omega)))]; rfl)


theorem HoldAt.lt {s : St} (hwf : s.wf) {h : Nat} {xs : List Item} {next : Int} {L : Option Nat} (hH : HoldAt s h xs next L) : h < s.nxt := by
  cases L with
  | none => exact lt_of_blk hwf hH.2
  | some L => obtain ⟨_, zs, h2, _⟩ := hH; exact lt_of_blk hwf h2

theorem HoldAt.new {s : St} (hwf : s.wf) {h : Nat} {xs : List Item} {next : Int} {L : Option Nat} (hH : HoldAt s h xs next L) (b : Blk) : HoldAt (s.new b) h xs next L := by
  have hlt := hH.lt hwf
  cases L with
  | none => exact ⟨hH.1, by rw [blk_new, if_neg (by omega)]; exact hH.2⟩
  | some L =>
    obtain ⟨h1, zs, h2, h3, h4⟩ := hH
    have hl := lt_of_blk hwf h3
    exact ⟨h1, zs, by rw [blk_new, if_neg (by omega)]; exact h2, by rw [blk_new, if_neg (by omega)]; exact h3, h4⟩

theorem Moves.new (s : St) (b : Blk) (h : Nat) (L : Option Nat) : Moves s (s.new b) h L L :=
  ⟨Nat.le_succ _, fun i hi _ _ => by rw [blk_new, if_neg (by omega)], fun l e => .inl e⟩

theorem k_perm {xs1 xs2 xs3 : List Item} {a b c : Item} (p1 : xs1.Perm ([] ++ [a])) (p2 : xs2.Perm (xs1 ++ [b])) (p3 : xs3.Perm (xs2 ++ [c])) : xs3.Perm [a, b, c] :=
  p3.trans ((p2.trans (p1.append_right _)).append_right _)

theorem k_first {xs : List Item} {x : Item} (p : xs.Perm [⟨5, 0, 1⟩, ⟨3, 1, 2⟩, ⟨5, 2, 3⟩]) (h : xs = [] ∧ x = ⟨0, 0, 0⟩ ∨ x ∈ xs ∧ ∀ a ∈ xs, a.lt x = false) : x = ⟨3, 1, 2⟩ := by
  rcases h with ⟨rfl, _⟩ | ⟨h1, h2⟩
  · exact absurd p.length_eq (by decide)
  · have h3 := p.subset h1
    have h4 := h2 ⟨3, 1, 2⟩ (p.symm.subset (by simp))
    simp only [List.mem_cons, List.mem_nil_iff, or_false] at h3
    rcases h3 with rfl | rfl | rfl
    · exact absurd h4 (by decide)
    · rfl
    · exact absurd h4 (by decide)

theorem k_due {xs out l m : List Item} {f : Item → Bool} (p : xs.Perm l) (h : out.Perm (xs.filter f)) (e : l.filter f = m) : out.Perm m := e ▸ h.trans (p.filter f)

theorem known_ {s : St} : ACalls Try.prog 9 [] s (fun r s' => r = .bool true ∧ s.nxt ≤ s'.nxt ∧ ∀ i, i < s.nxt → s'.blk i = s.blk i) := by
  refine ACalls.body Try.func9 rfl (by simp [Try.f9]) (by decide) fun hwf => ?_
  show Run _ _ [.code _] _ _ _
  refine Run.seq ?_
  refine Run.region ?_
  refine RunO.all (by simp only [go_sem, ↓reduceIte, Nat.reduceEqDiff, Nat.reduceLT, Nat.reduceLeDiff, Nat.reduceAdd, decide_true, decide_false, ne_eq, not_true_eq_false, not_false_eq_true] <;> rfl) ?_
  refine RunO.live' [] (by simp only [go_sem, ↓reduceIte, Nat.reduceEqDiff, Nat.reduceLT, Nat.reduceLeDiff, Nat.reduceAdd, decide_true, decide_false, ne_eq, not_true_eq_false, not_false_eq_true] <;> rfl) ?_
  refine Run.seq ?_
  refine Run.region ?_
  refine RunO.callw (by simp only [go_sem, ↓reduceIte, Nat.reduceEqDiff, Nat.reduceLT, Nat.reduceLeDiff, Nat.reduceAdd, decide_true, decide_false, ne_eq, not_true_eq_false, not_false_eq_true] <;> rfl) (by simp only [go_sem, ↓reduceIte, Nat.reduceEqDiff, Nat.reduceLT, Nat.reduceLeDiff, Nat.reduceAdd, decide_true, decide_false, ne_eq, not_true_eq_false, not_false_eq_true] <;> rfl) (by simp only [go_sem, ↓reduceIte, Nat.reduceEqDiff, Nat.reduceLT, Nat.reduceLeDiff, Nat.reduceAdd, decide_true, decide_false, ne_eq, not_true_eq_false, not_false_eq_true] <;> rfl) (by kernel_rfl) ((hold_New.wf).mono ?_)
  rintro r1 s1 ⟨wf1, rfl, H1, nx1, fr1⟩
  refine RunO.all (by simp only [go_sem, ↓reduceIte, Nat.reduceEqDiff, Nat.reduceLT, Nat.reduceLeDiff, Nat.reduceAdd, decide_true, decide_false, ne_eq, not_true_eq_false, not_false_eq_true] <;> rfl) ?_
  refine RunO.live' [1] (by simp only [go_sem, ↓reduceIte, Nat.reduceEqDiff, Nat.reduceLT, Nat.reduceLeDiff, Nat.reduceAdd, decide_true, decide_false, ne_eq, not_true_eq_false, not_false_eq_true] <;> rfl) ?_
  refine Run.seq ?_
  refine Run.seq ?_
  refine Run.region ?_
  refine RunO.all (by simp only [go_sem, ↓reduceIte, Nat.reduceEqDiff, Nat.reduceLT, Nat.reduceLeDiff, Nat.reduceAdd, decide_true, decide_false, ne_eq, not_true_eq_false, not_false_eq_true] <;> rfl) ?_
  refine RunO.live' [1, 14] (by simp only [go_sem, ↓reduceIte, Nat.reduceEqDiff, Nat.reduceLT, Nat.reduceLeDiff, Nat.reduceAdd, decide_true, decide_false, ne_eq, not_true_eq_false, not_false_eq_true] <;> rfl) ?_
  refine Run.cond (by simp only [go_sem, ↓reduceIte, Nat.reduceEqDiff, Nat.reduceLT, Nat.reduceLeDiff, Nat.reduceAdd, decide_true, decide_false, ne_eq, not_true_eq_false, not_false_eq_true] <;> rfl) (fun hc0 => ?_) (fun hc0 => ?_)
  · cases hc0
  · have hc := hc0
    refine Run.skip ?_
    refine Run.seq ?_
    refine Run.region ?_
    refine RunO.ops (pre := [_]) (by simp only [go_sem, ↓reduceIte, Nat.reduceEqDiff, Nat.reduceLT, Nat.reduceLeDiff, Nat.reduceAdd, decide_true, decide_false, ne_eq, not_true_eq_false, not_false_eq_true] <;> rfl) ?_
    refine RunO.callw (by simp only [go_sem, ↓reduceIte, Nat.reduceEqDiff, Nat.reduceLT, Nat.reduceLeDiff, Nat.reduceAdd, decide_true, decide_false, ne_eq, not_true_eq_false, not_false_eq_true] <;> rfl) (by simp only [go_sem, ↓reduceIte, Nat.reduceEqDiff, Nat.reduceLT, Nat.reduceLeDiff, Nat.reduceAdd, decide_true, decide_false, ne_eq, not_true_eq_false, not_false_eq_true] <;> rfl) (by simp only [go_sem, ↓reduceIte, Nat.reduceEqDiff, Nat.reduceLT, Nat.reduceLeDiff, Nat.reduceAdd, decide_true, decide_false, ne_eq, not_true_eq_false, not_false_eq_true] <;> rfl) (by kernel_rfl) (((hold_First H1).wf).mono ?_)
    rintro r2 s2 ⟨_, hs2, x0, rfl, hx0⟩
    subst s2
    obtain rfl : x0 = ⟨0, 0, 0⟩ := by
      rcases hx0 with ⟨_, h⟩ | ⟨h, _⟩
      · exact h
      · cases h
    refine RunO.all (by simp only [go_sem, ↓reduceIte, Nat.reduceEqDiff, Nat.reduceLT, Nat.reduceLeDiff, Nat.reduceAdd, decide_true, decide_false, ne_eq, not_true_eq_false, not_false_eq_true] <;> rfl) ?_
    refine RunO.live' [1, 3] (by simp only [go_sem, ↓reduceIte, Nat.reduceEqDiff, Nat.reduceLT, Nat.reduceLeDiff, Nat.reduceAdd, decide_true, decide_false, ne_eq, not_true_eq_false, not_false_eq_true] <;> rfl) ?_
    refine Run.seq ?_
    have H3 := H1.new wf1 (.row 37 [(⟨0, 0, 0⟩ : Item).pv])
    have hlt3 : s.nxt < (s1.new (.row 37 [(⟨0, 0, 0⟩ : Item).pv])).nxt := by rw [nxt_new]; omega
    refine Run.region ?_
    refine RunO.ops (pre := [_]) (by simp only [go_sem, ↓reduceIte, Nat.reduceEqDiff, Nat.reduceLT, Nat.reduceLeDiff, Nat.reduceAdd, decide_true, decide_false, ne_eq, not_true_eq_false, not_false_eq_true] <;> rfl) ?_
    refine RunO.callw (by simp only [go_sem, ↓reduceIte, Nat.reduceEqDiff, Nat.reduceLT, Nat.reduceLeDiff, Nat.reduceAdd, decide_true, decide_false, ne_eq, not_true_eq_false, not_false_eq_true] <;> rfl) (by simp only [go_sem, ↓reduceIte, Nat.reduceEqDiff, Nat.reduceLT, Nat.reduceLeDiff, Nat.reduceAdd, decide_true, decide_false, ne_eq, not_true_eq_false, not_false_eq_true] <;> rfl) (by simp only [go_sem, ↓reduceIte, Nat.reduceEqDiff, Nat.reduceLT, Nat.reduceLeDiff, Nat.reduceAdd, decide_true, decide_false, ne_eq, not_true_eq_false, not_false_eq_true] <;> rfl) (by kernel_rfl) (((hold_Put (xs := []) (next := 0) (L := none) (hlt3) H3 (by simp) (by decide)).wf).mono ?_)
    rintro r4 s4 ⟨wf4, rfl, xs1, L1, H4, p1, m4⟩
    have H4 : HoldAt s4 s.nxt xs1 1 L1 := H4
    have hl1 : xs1.length = 1 := by have := p1.length_eq; simpa using this
    refine RunO.ops (pre := [_]) (by simp only [go_sem, ↓reduceIte, Nat.reduceEqDiff, Nat.reduceLT, Nat.reduceLeDiff, Nat.reduceAdd, decide_true, decide_false, ne_eq, not_true_eq_false, not_false_eq_true] <;> rfl) ?_
    refine RunO.callw (by simp only [go_sem, ↓reduceIte, Nat.reduceEqDiff, Nat.reduceLT, Nat.reduceLeDiff, Nat.reduceAdd, decide_true, decide_false, ne_eq, not_true_eq_false, not_false_eq_true] <;> rfl) (by simp only [go_sem, ↓reduceIte, Nat.reduceEqDiff, Nat.reduceLT, Nat.reduceLeDiff, Nat.reduceAdd, decide_true, decide_false, ne_eq, not_true_eq_false, not_false_eq_true] <;> rfl) (by simp only [go_sem, ↓reduceIte, Nat.reduceEqDiff, Nat.reduceLT, Nat.reduceLeDiff, Nat.reduceAdd, decide_true, decide_false, ne_eq, not_true_eq_false, not_false_eq_true] <;> rfl) (by kernel_rfl) (((hold_Put (next := 1) (H4.lt wf4) H4 (by omega) (by decide)).wf).mono ?_)
    rintro r5 s5 ⟨wf5, rfl, xs2, L2, H5, p2, m5⟩
    have H5 : HoldAt s5 s.nxt xs2 2 L2 := H5
    have hl2 : xs2.length = 2 := by have := p2.length_eq; simpa [hl1] using this
    refine RunO.ops (pre := [_]) (by simp only [go_sem, ↓reduceIte, Nat.reduceEqDiff, Nat.reduceLT, Nat.reduceLeDiff, Nat.reduceAdd, decide_true, decide_false, ne_eq, not_true_eq_false, not_false_eq_true] <;> rfl) ?_
    refine RunO.callw (by simp only [go_sem, ↓reduceIte, Nat.reduceEqDiff, Nat.reduceLT, Nat.reduceLeDiff, Nat.reduceAdd, decide_true, decide_false, ne_eq, not_true_eq_false, not_false_eq_true] <;> rfl) (by simp only [go_sem, ↓reduceIte, Nat.reduceEqDiff, Nat.reduceLT, Nat.reduceLeDiff, Nat.reduceAdd, decide_true, decide_false, ne_eq, not_true_eq_false, not_false_eq_true] <;> rfl) (by simp only [go_sem, ↓reduceIte, Nat.reduceEqDiff, Nat.reduceLT, Nat.reduceLeDiff, Nat.reduceAdd, decide_true, decide_false, ne_eq, not_true_eq_false, not_false_eq_true] <;> rfl) (by kernel_rfl) (((hold_Put (next := 2) (H5.lt wf5) H5 (by omega) (by decide)).wf).mono ?_)
    rintro r6 s6 ⟨wf6, rfl, xs3, L3, H6, p3, m6⟩
    have hl3 : xs3.length = 3 := by have := p3.length_eq; simpa [hl2] using this
    refine RunO.all (by simp only [go_sem, ↓reduceIte, Nat.reduceEqDiff, Nat.reduceLT, Nat.reduceLeDiff, Nat.reduceAdd, decide_true, decide_false, ne_eq, not_true_eq_false, not_false_eq_true] <;> rfl) ?_
    refine RunO.live' [1, 3, 4, 5, 6] (by simp only [go_sem, ↓reduceIte, Nat.reduceEqDiff, Nat.reduceLT, Nat.reduceLeDiff, Nat.reduceAdd, decide_true, decide_false, ne_eq, not_true_eq_false, not_false_eq_true] <;> rfl) ?_
    refine Run.seq ?_
    refine Run.region ?_
    refine RunO.ops (pre := [_]) (by simp only [go_sem, ↓reduceIte, Nat.reduceEqDiff, Nat.reduceLT, Nat.reduceLeDiff, Nat.reduceAdd, decide_true, decide_false, ne_eq, not_true_eq_false, not_false_eq_true] <;> rfl) ?_
    refine RunO.callw (by simp only [go_sem, ↓reduceIte, Nat.reduceEqDiff, Nat.reduceLT, Nat.reduceLeDiff, Nat.reduceAdd, decide_true, decide_false, ne_eq, not_true_eq_false, not_false_eq_true] <;> rfl) (by simp only [go_sem, ↓reduceIte, Nat.reduceEqDiff, Nat.reduceLT, Nat.reduceLeDiff, Nat.reduceAdd, decide_true, decide_false, ne_eq, not_true_eq_false, not_false_eq_true] <;> rfl) (by simp only [go_sem, ↓reduceIte, Nat.reduceEqDiff, Nat.reduceLT, Nat.reduceLeDiff, Nat.reduceAdd, decide_true, decide_false, ne_eq, not_true_eq_false, not_false_eq_true] <;> rfl) (by kernel_rfl) (((hold_First H6).wf).mono ?_)
    rintro r7 s7 ⟨_, hs7, x, rfl, hx⟩
    subst s7
    have p := k_perm p1 p2 p3
    obtain rfl := k_first p hx
    have hne3 : (xs3 = []) = False := eq_false (by rintro rfl; simp at hl3)
    refine RunO.all (by simp only [go_sem, ↓reduceIte, Nat.reduceEqDiff, Nat.reduceLT, Nat.reduceLeDiff, Nat.reduceAdd, decide_true, decide_false, ne_eq, not_true_eq_false, not_false_eq_true, hne3] <;> rfl) ?_
    refine RunO.live' [1, 3, 4, 5, 6, 7, 8] (by simp only [go_sem, ↓reduceIte, Nat.reduceEqDiff, Nat.reduceLT, Nat.reduceLeDiff, Nat.reduceAdd, decide_true, decide_false, ne_eq, not_true_eq_false, not_false_eq_true, hne3] <;> rfl) ?_
    refine Run.seq ?_
    refine Run.region ?_
    refine RunO.ops (pre := [_]) (by simp only [go_sem, ↓reduceIte, Nat.reduceEqDiff, Nat.reduceLT, Nat.reduceLeDiff, Nat.reduceAdd, decide_true, decide_false, ne_eq, not_true_eq_false, not_false_eq_true, hne3] <;> rfl) ?_
    refine RunO.callw (by simp only [go_sem, ↓reduceIte, Nat.reduceEqDiff, Nat.reduceLT, Nat.reduceLeDiff, Nat.reduceAdd, decide_true, decide_false, ne_eq, not_true_eq_false, not_false_eq_true, hne3] <;> rfl) (by simp only [go_sem, ↓reduceIte, Nat.reduceEqDiff, Nat.reduceLT, Nat.reduceLeDiff, Nat.reduceAdd, decide_true, decide_false, ne_eq, not_true_eq_false, not_false_eq_true, hne3] <;> rfl) (by simp only [go_sem, ↓reduceIte, Nat.reduceEqDiff, Nat.reduceLT, Nat.reduceLeDiff, Nat.reduceAdd, decide_true, decide_false, ne_eq, not_true_eq_false, not_false_eq_true, hne3] <;> rfl) (by kernel_rfl) (((hold_Due (H6.new wf6 _) (by omega)).wf).mono ?_)
    rintro r8 s8 ⟨wf8, out1, xs4, rfl, H8, m8, q1, q2, _⟩
    obtain rfl := List.perm_singleton.1 (k_due p q1 (m := [⟨3, 1, 2⟩]) (by decide))
    have p4 : xs4.Perm [⟨5, 0, 1⟩, ⟨5, 2, 3⟩] := k_due p q2 (by decide)
    have hl4 : xs4.length = 2 := p4.length_eq
    refine RunO.all (by simp only [go_sem, ↓reduceIte, Nat.reduceEqDiff, Nat.reduceLT, Nat.reduceLeDiff, Nat.reduceAdd, decide_true, decide_false, ne_eq, not_true_eq_false, not_false_eq_true, hne3] <;> rfl) ?_
    refine RunO.live' [1, 3, 4, 5, 6, 7, 8, 9] (by simp only [go_sem, ↓reduceIte, Nat.reduceEqDiff, Nat.reduceLT, Nat.reduceLeDiff, Nat.reduceAdd, decide_true, decide_false, ne_eq, not_true_eq_false, not_false_eq_true, hne3] <;> rfl) ?_
    refine Run.seq ?_
    refine Run.region ?_
    refine RunO.ops (pre := [_]) (by simp only [go_sem, ↓reduceIte, Nat.reduceEqDiff, Nat.reduceLT, Nat.reduceLeDiff, Nat.reduceAdd, decide_true, decide_false, ne_eq, not_true_eq_false, not_false_eq_true, hne3] <;> rfl) ?_
    refine RunO.callw (by simp only [go_sem, ↓reduceIte, Nat.reduceEqDiff, Nat.reduceLT, Nat.reduceLeDiff, Nat.reduceAdd, decide_true, decide_false, ne_eq, not_true_eq_false, not_false_eq_true, hne3] <;> rfl) (by simp only [go_sem, ↓reduceIte, Nat.reduceEqDiff, Nat.reduceLT, Nat.reduceLeDiff, Nat.reduceAdd, decide_true, decide_false, ne_eq, not_true_eq_false, not_false_eq_true, hne3] <;> rfl) (by simp only [go_sem, ↓reduceIte, Nat.reduceEqDiff, Nat.reduceLT, Nat.reduceLeDiff, Nat.reduceAdd, decide_true, decide_false, ne_eq, not_true_eq_false, not_false_eq_true, hne3] <;> rfl) (by kernel_rfl) (((hold_Drop H8 (by omega)).wf).mono ?_)
    rintro r9 s9 ⟨wf9, xs5, hr9, H9, m9, q5⟩
    obtain rfl := List.perm_singleton.1 (k_due p4 (show xs5.Perm (xs4.filter _) from q5) (m := [⟨5, 2, 3⟩]) (by decide))
    obtain rfl : r9 = .int .i64 1 := by rw [hr9, hl4]; rfl
    refine RunO.all (by simp only [go_sem, ↓reduceIte, Nat.reduceEqDiff, Nat.reduceLT, Nat.reduceLeDiff, Nat.reduceAdd, decide_true, decide_false, ne_eq, not_true_eq_false, not_false_eq_true, hne3] <;> rfl) ?_
    refine RunO.live' [1, 3, 4, 5, 6, 7, 8, 9, 10] (by simp only [go_sem, ↓reduceIte, Nat.reduceEqDiff, Nat.reduceLT, Nat.reduceLeDiff, Nat.reduceAdd, decide_true, decide_false, ne_eq, not_true_eq_false, not_false_eq_true, hne3] <;> rfl) ?_
    refine Run.seq ?_
    refine Run.region ?_
    refine RunO.ops (pre := [_]) (by simp only [go_sem, ↓reduceIte, Nat.reduceEqDiff, Nat.reduceLT, Nat.reduceLeDiff, Nat.reduceAdd, decide_true, decide_false, ne_eq, not_true_eq_false, not_false_eq_true, hne3] <;> rfl) ?_
    refine RunO.callw (by simp only [go_sem, ↓reduceIte, Nat.reduceEqDiff, Nat.reduceLT, Nat.reduceLeDiff, Nat.reduceAdd, decide_true, decide_false, ne_eq, not_true_eq_false, not_false_eq_true, hne3] <;> rfl) (by simp only [go_sem, ↓reduceIte, Nat.reduceEqDiff, Nat.reduceLT, Nat.reduceLeDiff, Nat.reduceAdd, decide_true, decide_false, ne_eq, not_true_eq_false, not_false_eq_true, hne3] <;> rfl) (by simp only [go_sem, ↓reduceIte, Nat.reduceEqDiff, Nat.reduceLT, Nat.reduceLeDiff, Nat.reduceAdd, decide_true, decide_false, ne_eq, not_true_eq_false, not_false_eq_true, hne3] <;> rfl) (by kernel_rfl) (((hold_Due H9 (by simp)).wf).mono ?_)
    rintro r10 s10 ⟨wf10, out2, xs6, rfl, H10, m10, q6, q7, _⟩
    obtain rfl := List.perm_singleton.1 (k_due (.refl _) q6 (m := [⟨5, 2, 3⟩]) (by decide))
    obtain rfl : xs6 = [] := List.perm_nil.1 (k_due (.refl _) q7 (by decide))
    refine RunO.all (by simp only [go_sem, ↓reduceIte, Nat.reduceEqDiff, Nat.reduceLT, Nat.reduceLeDiff, Nat.reduceAdd, decide_true, decide_false, ne_eq, not_true_eq_false, not_false_eq_true, hne3] <;> rfl) ?_
    refine RunO.live' [1, 3, 4, 5, 6, 7, 8, 9, 10, 11] (by simp only [go_sem, ↓reduceIte, Nat.reduceEqDiff, Nat.reduceLT, Nat.reduceLeDiff, Nat.reduceAdd, decide_true, decide_false, ne_eq, not_true_eq_false, not_false_eq_true, hne3] <;> rfl) ?_
    refine Run.seq ?_
    have hL3 : L3 ≠ some s6.nxt := by
      rintro rfl
      obtain ⟨_, zs, _, h3, _⟩ := H6
      have := lt_of_blk wf6 h3
      omega
    have h6 := H6.lt wf6
    have n8 := m8.nxt
    have n9 := m9.nxt
    rw [nxt_new] at n8
    have hc7 : s10.blk s6.nxt = some (.row 37 [(⟨3, 1, 2⟩ : Item).pv]) := by
      rw [m10.rest _ (by omega) (by omega) hL3, m9.rest _ (by omega) (by omega) hL3, m8.rest _ (by rw [nxt_new]; omega) (by omega) hL3]
      exact blk_set_self0 _ _
    simp only [Item.pv] at hc7
    refine Run.region ?_
    refine RunO.ops (pre := [_, _, _]) (by simp only [go_sem, ↓reduceIte, Nat.reduceEqDiff, Nat.reduceLT, Nat.reduceLeDiff, Nat.reduceAdd, decide_true, decide_false, ne_eq, not_true_eq_false, not_false_eq_true, hne3, hc7] <;> rfl) ?_
    refine RunO.bcase 39 (by simp only [go_sem, ↓reduceIte, Nat.reduceEqDiff, Nat.reduceLT, Nat.reduceLeDiff, Nat.reduceAdd, decide_true, decide_false, ne_eq, not_true_eq_false, not_false_eq_true, hne3, hc7] <;> rfl) (fun hg2 => ?_) (fun hg2 => ?_)
    · refine RunO.gdo (by simp only [go_sem, ↓reduceIte, Nat.reduceEqDiff, Nat.reduceLT, Nat.reduceLeDiff, Nat.reduceAdd, decide_true, decide_false, ne_eq, not_true_eq_false, not_false_eq_true, hne3, hc7] <;> rfl) (by simp only [go_sem, ↓reduceIte, Nat.reduceEqDiff, Nat.reduceLT, Nat.reduceLeDiff, Nat.reduceAdd, decide_true, decide_false, ne_eq, not_true_eq_false, not_false_eq_true, hne3, hc7] <;> rfl) ?_
      refine RunO.gdo (by simp only [go_sem, ↓reduceIte, Nat.reduceEqDiff, Nat.reduceLT, Nat.reduceLeDiff, Nat.reduceAdd, decide_true, decide_false, ne_eq, not_true_eq_false, not_false_eq_true, hne3, hc7] <;> rfl) (by simp only [go_sem, ↓reduceIte, Nat.reduceEqDiff, Nat.reduceLT, Nat.reduceLeDiff, Nat.reduceAdd, decide_true, decide_false, ne_eq, not_true_eq_false, not_false_eq_true, hne3, hc7] <;> rfl) ?_
      refine RunO.ops (pre := [_, _]) (by simp only [go_sem, ↓reduceIte, Nat.reduceEqDiff, Nat.reduceLT, Nat.reduceLeDiff, Nat.reduceAdd, decide_true, decide_false, ne_eq, not_true_eq_false, not_false_eq_true, hne3, hc7] <;> rfl) ?_
      refine RunO.bcase 43 (by simp only [go_sem, ↓reduceIte, Nat.reduceEqDiff, Nat.reduceLT, Nat.reduceLeDiff, Nat.reduceAdd, decide_true, decide_false, ne_eq, not_true_eq_false, not_false_eq_true, hne3, hc7] <;> rfl) (fun hg6 => ?_) (fun hg6 => ?_)
      · refine RunO.gdo (by simp only [go_sem, ↓reduceIte, Nat.reduceEqDiff, Nat.reduceLT, Nat.reduceLeDiff, Nat.reduceAdd, decide_true, decide_false, ne_eq, not_true_eq_false, not_false_eq_true, hne3, hc7] <;> rfl) (by simp only [go_sem, ↓reduceIte, Nat.reduceEqDiff, Nat.reduceLT, Nat.reduceLeDiff, Nat.reduceAdd, decide_true, decide_false, ne_eq, not_true_eq_false, not_false_eq_true, hne3, hc7] <;> rfl) ?_
        refine RunO.gdo (by simp only [go_sem, ↓reduceIte, Nat.reduceEqDiff, Nat.reduceLT, Nat.reduceLeDiff, Nat.reduceAdd, decide_true, decide_false, ne_eq, not_true_eq_false, not_false_eq_true, hne3, hc7] <;> rfl) (by simp only [go_sem, ↓reduceIte, Nat.reduceEqDiff, Nat.reduceLT, Nat.reduceLeDiff, Nat.reduceAdd, decide_true, decide_false, ne_eq, not_true_eq_false, not_false_eq_true, hne3, hc7] <;> rfl) ?_
        refine RunO.ops (pre := [_, _]) (by simp only [go_sem, ↓reduceIte, Nat.reduceEqDiff, Nat.reduceLT, Nat.reduceLeDiff, Nat.reduceAdd, decide_true, decide_false, ne_eq, not_true_eq_false, not_false_eq_true, hne3, hc7] <;> rfl) ?_
        refine RunO.bcase 47 (by simp only [go_sem, ↓reduceIte, Nat.reduceEqDiff, Nat.reduceLT, Nat.reduceLeDiff, Nat.reduceAdd, decide_true, decide_false, ne_eq, not_true_eq_false, not_false_eq_true, hne3, hc7] <;> rfl) (fun hg10 => ?_) (fun hg10 => ?_)
        · refine RunO.gdo (by simp only [go_sem, ↓reduceIte, Nat.reduceEqDiff, Nat.reduceLT, Nat.reduceLeDiff, Nat.reduceAdd, decide_true, decide_false, ne_eq, not_true_eq_false, not_false_eq_true, hne3, hc7] <;> rfl) (by simp only [go_sem, ↓reduceIte, Nat.reduceEqDiff, Nat.reduceLT, Nat.reduceLeDiff, Nat.reduceAdd, decide_true, decide_false, ne_eq, not_true_eq_false, not_false_eq_true, hne3, hc7] <;> rfl) ?_
          refine RunO.gdo (by simp only [go_sem, ↓reduceIte, Nat.reduceEqDiff, Nat.reduceLT, Nat.reduceLeDiff, Nat.reduceAdd, decide_true, decide_false, ne_eq, not_true_eq_false, not_false_eq_true, hne3, hc7] <;> rfl) (by simp only [go_sem, ↓reduceIte, Nat.reduceEqDiff, Nat.reduceLT, Nat.reduceLeDiff, Nat.reduceAdd, decide_true, decide_false, ne_eq, not_true_eq_false, not_false_eq_true, hne3, hc7] <;> rfl) ?_
          refine RunO.ops (pre := [_, _]) (by simp only [go_sem, ↓reduceIte, Nat.reduceEqDiff, Nat.reduceLT, Nat.reduceLeDiff, Nat.reduceAdd, decide_true, decide_false, ne_eq, not_true_eq_false, not_false_eq_true, hne3, hc7] <;> rfl) ?_
          refine RunO.bcase 51 (by simp only [go_sem, ↓reduceIte, Nat.reduceEqDiff, Nat.reduceLT, Nat.reduceLeDiff, Nat.reduceAdd, decide_true, decide_false, ne_eq, not_true_eq_false, not_false_eq_true, hne3, hc7] <;> rfl) (fun hg14 => ?_) (fun hg14 => ?_)
          · refine RunO.gdo (by simp only [go_sem, ↓reduceIte, Nat.reduceEqDiff, Nat.reduceLT, Nat.reduceLeDiff, Nat.reduceAdd, decide_true, decide_false, ne_eq, not_true_eq_false, not_false_eq_true, hne3, hc7] <;> rfl) (by simp only [go_sem, ↓reduceIte, Nat.reduceEqDiff, Nat.reduceLT, Nat.reduceLeDiff, Nat.reduceAdd, decide_true, decide_false, ne_eq, not_true_eq_false, not_false_eq_true, hne3, hc7] <;> rfl) ?_
            refine RunO.ops (pre := [_, _]) (by simp only [go_sem, ↓reduceIte, Nat.reduceEqDiff, Nat.reduceLT, Nat.reduceLeDiff, Nat.reduceAdd, decide_true, decide_false, ne_eq, not_true_eq_false, not_false_eq_true, hne3, hc7] <;> rfl) ?_
            refine RunO.bcase 54 (by simp only [go_sem, ↓reduceIte, Nat.reduceEqDiff, Nat.reduceLT, Nat.reduceLeDiff, Nat.reduceAdd, decide_true, decide_false, ne_eq, not_true_eq_false, not_false_eq_true, hne3, hc7] <;> rfl) (fun hg17 => ?_) (fun hg17 => ?_)
            · refine RunO.gdo (by simp only [go_sem, ↓reduceIte, Nat.reduceEqDiff, Nat.reduceLT, Nat.reduceLeDiff, Nat.reduceAdd, decide_true, decide_false, ne_eq, not_true_eq_false, not_false_eq_true, hne3, hc7] <;> rfl) (by simp only [go_sem, ↓reduceIte, Nat.reduceEqDiff, Nat.reduceLT, Nat.reduceLeDiff, Nat.reduceAdd, decide_true, decide_false, ne_eq, not_true_eq_false, not_false_eq_true, hne3, hc7] <;> rfl) ?_
              refine RunO.gdo (by simp only [go_sem, ↓reduceIte, Nat.reduceEqDiff, Nat.reduceLT, Nat.reduceLeDiff, Nat.reduceAdd, decide_true, decide_false, ne_eq, not_true_eq_false, not_false_eq_true, hne3, hc7] <;> rfl) (by simp only [go_sem, ↓reduceIte, Nat.reduceEqDiff, Nat.reduceLT, Nat.reduceLeDiff, Nat.reduceAdd, decide_true, decide_false, ne_eq, not_true_eq_false, not_false_eq_true, hne3, hc7] <;> rfl) ?_
              refine RunO.gdo (by simp only [go_sem, ↓reduceIte, Nat.reduceEqDiff, Nat.reduceLT, Nat.reduceLeDiff, Nat.reduceAdd, decide_true, decide_false, ne_eq, not_true_eq_false, not_false_eq_true, hne3, hc7] <;> rfl) (by simp only [go_sem, ↓reduceIte, Nat.reduceEqDiff, Nat.reduceLT, Nat.reduceLeDiff, Nat.reduceAdd, decide_true, decide_false, ne_eq, not_true_eq_false, not_false_eq_true, hne3, hc7] <;> rfl) ?_
              refine RunO.ops (pre := [_, _]) (by simp only [go_sem, ↓reduceIte, Nat.reduceEqDiff, Nat.reduceLT, Nat.reduceLeDiff, Nat.reduceAdd, decide_true, decide_false, ne_eq, not_true_eq_false, not_false_eq_true, hne3, hc7] <;> rfl) ?_
              refine RunO.bcase 59 (by simp only [go_sem, ↓reduceIte, Nat.reduceEqDiff, Nat.reduceLT, Nat.reduceLeDiff, Nat.reduceAdd, decide_true, decide_false, ne_eq, not_true_eq_false, not_false_eq_true, hne3, hc7] <;> rfl) (fun hg22 => ?_) (fun hg22 => ?_)
              · refine RunO.gdo (by simp only [go_sem, ↓reduceIte, Nat.reduceEqDiff, Nat.reduceLT, Nat.reduceLeDiff, Nat.reduceAdd, decide_true, decide_false, ne_eq, not_true_eq_false, not_false_eq_true, hne3, hc7] <;> rfl) (by simp only [go_sem, ↓reduceIte, Nat.reduceEqDiff, Nat.reduceLT, Nat.reduceLeDiff, Nat.reduceAdd, decide_true, decide_false, ne_eq, not_true_eq_false, not_false_eq_true, hne3, hc7] <;> rfl) ?_
                refine RunO.gdo (by simp only [go_sem, ↓reduceIte, Nat.reduceEqDiff, Nat.reduceLT, Nat.reduceLeDiff, Nat.reduceAdd, decide_true, decide_false, ne_eq, not_true_eq_false, not_false_eq_true, hne3, hc7] <;> rfl) (by simp only [go_sem, ↓reduceIte, Nat.reduceEqDiff, Nat.reduceLT, Nat.reduceLeDiff, Nat.reduceAdd, decide_true, decide_false, ne_eq, not_true_eq_false, not_false_eq_true, hne3, hc7] <;> rfl) ?_
                refine RunO.lit (by simp only [go_sem, ↓reduceIte, Nat.reduceEqDiff, Nat.reduceLT, Nat.reduceLeDiff, Nat.reduceAdd, decide_true, decide_false, ne_eq, not_true_eq_false, not_false_eq_true, hne3, hc7] <;> rfl) (by simp only [go_sem, ↓reduceIte, Nat.reduceEqDiff, Nat.reduceLT, Nat.reduceLeDiff, Nat.reduceAdd, decide_true, decide_false, ne_eq, not_true_eq_false, not_false_eq_true, hne3, hc7] <;> rfl) ?_
                refine RunO.callw (by simp only [go_sem, ↓reduceIte, Nat.reduceEqDiff, Nat.reduceLT, Nat.reduceLeDiff, Nat.reduceAdd, decide_true, decide_false, ne_eq, not_true_eq_false, not_false_eq_true, hne3, hc7] <;> rfl) (by simp only [go_sem, ↓reduceIte, Nat.reduceEqDiff, Nat.reduceLT, Nat.reduceLeDiff, Nat.reduceAdd, decide_true, decide_false, ne_eq, not_true_eq_false, not_false_eq_true, hne3, hc7] <;> rfl) (by simp only [go_sem, ↓reduceIte, Nat.reduceEqDiff, Nat.reduceLT, Nat.reduceLeDiff, Nat.reduceAdd, decide_true, decide_false, ne_eq, not_true_eq_false, not_false_eq_true, hne3, hc7] <;> rfl) (by kernel_rfl) ((same_ (xs := [⟨3, 1, 2⟩]) (ys := [⟨3, 1, 2⟩]) (by simp)).mono ?_)
                rintro r11 s11 ⟨rfl, hs⟩
                subst s11
                refine RunO.ops (pre := [_, _]) (by simp only [go_sem, ↓reduceIte, Nat.reduceEqDiff, Nat.reduceLT, Nat.reduceLeDiff, Nat.reduceAdd, decide_true, decide_false, ne_eq, not_true_eq_false, not_false_eq_true, hne3, hc7] <;> rfl) ?_
                refine RunO.bcase 65 (by simp only [go_sem, ↓reduceIte, Nat.reduceEqDiff, Nat.reduceLT, Nat.reduceLeDiff, Nat.reduceAdd, decide_true, decide_false, ne_eq, not_true_eq_false, not_false_eq_true, hne3, hc7] <;> rfl) (fun hg28 => ?_) (fun hg28 => ?_)
                · refine RunO.gdo (by simp only [go_sem, ↓reduceIte, Nat.reduceEqDiff, Nat.reduceLT, Nat.reduceLeDiff, Nat.reduceAdd, decide_true, decide_false, ne_eq, not_true_eq_false, not_false_eq_true, hne3, hc7] <;> rfl) (by simp only [go_sem, ↓reduceIte, Nat.reduceEqDiff, Nat.reduceLT, Nat.reduceLeDiff, Nat.reduceAdd, decide_true, decide_false, ne_eq, not_true_eq_false, not_false_eq_true, hne3, hc7] <;> rfl) ?_
                  refine RunO.gdo (by simp only [go_sem, ↓reduceIte, Nat.reduceEqDiff, Nat.reduceLT, Nat.reduceLeDiff, Nat.reduceAdd, decide_true, decide_false, ne_eq, not_true_eq_false, not_false_eq_true, hne3, hc7] <;> rfl) (by simp only [go_sem, ↓reduceIte, Nat.reduceEqDiff, Nat.reduceLT, Nat.reduceLeDiff, Nat.reduceAdd, decide_true, decide_false, ne_eq, not_true_eq_false, not_false_eq_true, hne3, hc7] <;> rfl) ?_
                  refine RunO.ops (pre := [_, _]) (by simp only [go_sem, ↓reduceIte, Nat.reduceEqDiff, Nat.reduceLT, Nat.reduceLeDiff, Nat.reduceAdd, decide_true, decide_false, ne_eq, not_true_eq_false, not_false_eq_true, hne3, hc7] <;> rfl) ?_
                  refine RunO.bcase 69 (by simp only [go_sem, ↓reduceIte, Nat.reduceEqDiff, Nat.reduceLT, Nat.reduceLeDiff, Nat.reduceAdd, decide_true, decide_false, ne_eq, not_true_eq_false, not_false_eq_true, hne3, hc7] <;> rfl) (fun hg32 => ?_) (fun hg32 => ?_)
                  · refine RunO.gdo (by simp only [go_sem, ↓reduceIte, Nat.reduceEqDiff, Nat.reduceLT, Nat.reduceLeDiff, Nat.reduceAdd, decide_true, decide_false, ne_eq, not_true_eq_false, not_false_eq_true, hne3, hc7] <;> rfl) (by simp only [go_sem, ↓reduceIte, Nat.reduceEqDiff, Nat.reduceLT, Nat.reduceLeDiff, Nat.reduceAdd, decide_true, decide_false, ne_eq, not_true_eq_false, not_false_eq_true, hne3, hc7] <;> rfl) ?_
                    refine RunO.gdo (by simp only [go_sem, ↓reduceIte, Nat.reduceEqDiff, Nat.reduceLT, Nat.reduceLeDiff, Nat.reduceAdd, decide_true, decide_false, ne_eq, not_true_eq_false, not_false_eq_true, hne3, hc7] <;> rfl) (by simp only [go_sem, ↓reduceIte, Nat.reduceEqDiff, Nat.reduceLT, Nat.reduceLeDiff, Nat.reduceAdd, decide_true, decide_false, ne_eq, not_true_eq_false, not_false_eq_true, hne3, hc7] <;> rfl) ?_
                    refine RunO.lit (by simp only [go_sem, ↓reduceIte, Nat.reduceEqDiff, Nat.reduceLT, Nat.reduceLeDiff, Nat.reduceAdd, decide_true, decide_false, ne_eq, not_true_eq_false, not_false_eq_true, hne3, hc7] <;> rfl) (by simp only [go_sem, ↓reduceIte, Nat.reduceEqDiff, Nat.reduceLT, Nat.reduceLeDiff, Nat.reduceAdd, decide_true, decide_false, ne_eq, not_true_eq_false, not_false_eq_true, hne3, hc7] <;> rfl) ?_
                    refine RunO.callw (by simp only [go_sem, ↓reduceIte, Nat.reduceEqDiff, Nat.reduceLT, Nat.reduceLeDiff, Nat.reduceAdd, decide_true, decide_false, ne_eq, not_true_eq_false, not_false_eq_true, hne3, hc7] <;> rfl) (by simp only [go_sem, ↓reduceIte, Nat.reduceEqDiff, Nat.reduceLT, Nat.reduceLeDiff, Nat.reduceAdd, decide_true, decide_false, ne_eq, not_true_eq_false, not_false_eq_true, hne3, hc7] <;> rfl) (by simp only [go_sem, ↓reduceIte, Nat.reduceEqDiff, Nat.reduceLT, Nat.reduceLeDiff, Nat.reduceAdd, decide_true, decide_false, ne_eq, not_true_eq_false, not_false_eq_true, hne3, hc7] <;> rfl) (by kernel_rfl) ((same_ (xs := [⟨5, 2, 3⟩]) (ys := [⟨5, 2, 3⟩]) (by simp)).mono ?_)
                    rintro r12 s12 ⟨rfl, hs⟩
                    subst s12
                    refine RunO.ops (pre := [_, _]) (by simp only [go_sem, ↓reduceIte, Nat.reduceEqDiff, Nat.reduceLT, Nat.reduceLeDiff, Nat.reduceAdd, decide_true, decide_false, ne_eq, not_true_eq_false, not_false_eq_true, hne3, hc7] <;> rfl) ?_
                    refine RunO.bcase 75 (by simp only [go_sem, ↓reduceIte, Nat.reduceEqDiff, Nat.reduceLT, Nat.reduceLeDiff, Nat.reduceAdd, decide_true, decide_false, ne_eq, not_true_eq_false, not_false_eq_true, hne3, hc7] <;> rfl) (fun hg38 => ?_) (fun hg38 => ?_)
                    · refine RunO.gdo (by simp only [go_sem, ↓reduceIte, Nat.reduceEqDiff, Nat.reduceLT, Nat.reduceLeDiff, Nat.reduceAdd, decide_true, decide_false, ne_eq, not_true_eq_false, not_false_eq_true, hne3, hc7] <;> rfl) (by simp only [go_sem, ↓reduceIte, Nat.reduceEqDiff, Nat.reduceLT, Nat.reduceLeDiff, Nat.reduceAdd, decide_true, decide_false, ne_eq, not_true_eq_false, not_false_eq_true, hne3, hc7] <;> rfl) ?_
                      refine RunO.callw (by simp only [go_sem, ↓reduceIte, Nat.reduceEqDiff, Nat.reduceLT, Nat.reduceLeDiff, Nat.reduceAdd, decide_true, decide_false, ne_eq, not_true_eq_false, not_false_eq_true, hne3, hc7] <;> rfl) (by simp only [go_sem, ↓reduceIte, Nat.reduceEqDiff, Nat.reduceLT, Nat.reduceLeDiff, Nat.reduceAdd, decide_true, decide_false, ne_eq, not_true_eq_false, not_false_eq_true, hne3, hc7] <;> rfl) (by simp only [go_sem, ↓reduceIte, Nat.reduceEqDiff, Nat.reduceLT, Nat.reduceLeDiff, Nat.reduceAdd, decide_true, decide_false, ne_eq, not_true_eq_false, not_false_eq_true, hne3, hc7] <;> rfl) (by kernel_rfl) ((hold_Len H10).mono ?_)
                      rintro r13 s13 ⟨hr13, hs⟩
                      subst s13
                      obtain rfl : r13 = .int .i64 0 := hr13
                      refine RunO.gdo (by simp only [go_sem, ↓reduceIte, Nat.reduceEqDiff, Nat.reduceLT, Nat.reduceLeDiff, Nat.reduceAdd, decide_true, decide_false, ne_eq, not_true_eq_false, not_false_eq_true, hne3, hc7] <;> rfl) (by simp only [go_sem, ↓reduceIte, Nat.reduceEqDiff, Nat.reduceLT, Nat.reduceLeDiff, Nat.reduceAdd, decide_true, decide_false, ne_eq, not_true_eq_false, not_false_eq_true, hne3, hc7] <;> rfl) ?_
                      refine RunO.ops (pre := [_, _]) (by simp only [go_sem, ↓reduceIte, Nat.reduceEqDiff, Nat.reduceLT, Nat.reduceLeDiff, Nat.reduceAdd, decide_true, decide_false, ne_eq, not_true_eq_false, not_false_eq_true, hne3, hc7] <;> rfl) ?_
                      refine RunO.bcase 80 (by simp only [go_sem, ↓reduceIte, Nat.reduceEqDiff, Nat.reduceLT, Nat.reduceLeDiff, Nat.reduceAdd, decide_true, decide_false, ne_eq, not_true_eq_false, not_false_eq_true, hne3, hc7] <;> rfl) (fun hg43 => ?_) (fun hg43 => ?_)
                      · refine RunO.gdo (by simp only [go_sem, ↓reduceIte, Nat.reduceEqDiff, Nat.reduceLT, Nat.reduceLeDiff, Nat.reduceAdd, decide_true, decide_false, ne_eq, not_true_eq_false, not_false_eq_true, hne3, hc7] <;> rfl) (by simp only [go_sem, ↓reduceIte, Nat.reduceEqDiff, Nat.reduceLT, Nat.reduceLeDiff, Nat.reduceAdd, decide_true, decide_false, ne_eq, not_true_eq_false, not_false_eq_true, hne3, hc7] <;> rfl) ?_
                        refine RunO.callw (by simp only [go_sem, ↓reduceIte, Nat.reduceEqDiff, Nat.reduceLT, Nat.reduceLeDiff, Nat.reduceAdd, decide_true, decide_false, ne_eq, not_true_eq_false, not_false_eq_true, hne3, hc7] <;> rfl) (by simp only [go_sem, ↓reduceIte, Nat.reduceEqDiff, Nat.reduceLT, Nat.reduceLeDiff, Nat.reduceAdd, decide_true, decide_false, ne_eq, not_true_eq_false, not_false_eq_true, hne3, hc7] <;> rfl) (by simp only [go_sem, ↓reduceIte, Nat.reduceEqDiff, Nat.reduceLT, Nat.reduceLeDiff, Nat.reduceAdd, decide_true, decide_false, ne_eq, not_true_eq_false, not_false_eq_true, hne3, hc7] <;> rfl) (by kernel_rfl) (((hold_Due H10 (by simp)).wf).mono ?_)
                        rintro r14 s14 ⟨wf14, out3, xs7, rfl, H14, m14, q8, _, _⟩
                        obtain rfl : out3 = [] := List.perm_nil.1 (k_due (.refl _) q8 (by decide))
                        refine RunO.gdo (by simp only [go_sem, ↓reduceIte, Nat.reduceEqDiff, Nat.reduceLT, Nat.reduceLeDiff, Nat.reduceAdd, decide_true, decide_false, ne_eq, not_true_eq_false, not_false_eq_true, hne3, hc7] <;> rfl) (by simp only [go_sem, ↓reduceIte, Nat.reduceEqDiff, Nat.reduceLT, Nat.reduceLeDiff, Nat.reduceAdd, decide_true, decide_false, ne_eq, not_true_eq_false, not_false_eq_true, hne3, hc7] <;> rfl) ?_
                        refine RunO.gdo (by simp only [go_sem, ↓reduceIte, Nat.reduceEqDiff, Nat.reduceLT, Nat.reduceLeDiff, Nat.reduceAdd, decide_true, decide_false, ne_eq, not_true_eq_false, not_false_eq_true, hne3, hc7] <;> rfl) (by simp only [go_sem, ↓reduceIte, Nat.reduceEqDiff, Nat.reduceLT, Nat.reduceLeDiff, Nat.reduceAdd, decide_true, decide_false, ne_eq, not_true_eq_false, not_false_eq_true, hne3, hc7] <;> rfl) ?_
                        refine RunO.all (by simp only [go_sem, ↓reduceIte, Nat.reduceEqDiff, Nat.reduceLT, Nat.reduceLeDiff, Nat.reduceAdd, decide_true, decide_false, ne_eq, not_true_eq_false, not_false_eq_true, hne3, hc7] <;> rfl) ?_
                        refine RunO.live' [0] (by simp only [go_sem, ↓reduceIte, Nat.reduceEqDiff, Nat.reduceLT, Nat.reduceLeDiff, Nat.reduceAdd, decide_true, decide_false, ne_eq, not_true_eq_false, not_false_eq_true, hne3, hc7] <;> rfl) ?_
                        refine Run.ret ?_
                        have M := (((((((Moves.new s1 _ s.nxt none).trans m4).trans m5).trans m6).trans (Moves.new s6 _ s.nxt L3)).trans m8).trans m9).trans m10 |>.trans m14
                        refine Ret.all (by simp only [Try.f9, go_sem] <;> rfl) ⟨rfl, ?_, fun i hi => ?_⟩
                        · have := M.nxt
                          omega
                        · rw [M.rest i (by omega) (by omega) (by simp), fr1 i hi]
                      · cases hg43
                    · cases hg38
                  · cases hg32
                · cases hg28
              · cases hg22
            · cases hg17
          · cases hg14
        · cases hg10
      · cases hg6
    · cases hg2

end Go.Proofs
