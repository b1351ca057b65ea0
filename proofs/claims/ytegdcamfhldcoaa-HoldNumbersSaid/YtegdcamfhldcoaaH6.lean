import Derived.Test.YtegdcamfhldcoaaH5
namespace Go.Proofs
open Go.PM
set_option linter.unusedVariables false

/-! ## Two holds -/

structure Apart (A B : Nat) (L1 L2 : Option Nat) : Prop where
  ab : A ≠ B
  l1 : L1 ≠ some B
  l2 : L2 ≠ some A
  ll : ∀ l, L1 = some l → L2 ≠ some l

theorem Apart.symm {A B : Nat} {L1 L2 : Option Nat} (h : Apart A B L1 L2) : Apart B A L2 L1 :=
  ⟨Ne.symm h.ab, h.l2, h.l1, fun l e e' => h.ll l e' e⟩

theorem HoldAt.list_lt {s : St} (hwf : s.wf) {h l : Nat} {xs : List Item} {next : Int} {L : Option Nat} (hH : HoldAt s h xs next L) (e : L = some l) : l < s.nxt := by
  subst e
  obtain ⟨_, zs, _, h3, _⟩ := hH
  exact lt_of_blk hwf h3

theorem HoldAt.keep {s s' : St} {h : Nat} {xs : List Item} {next : Int} {L : Option Nat} (hH : HoldAt s h xs next L) (h1 : s'.blk h = s.blk h) (h2 : ∀ l, L = some l → s'.blk l = s.blk l) : HoldAt s' h xs next L := by
  cases L with
  | none => exact ⟨hH.1, by rw [h1]; exact hH.2⟩
  | some L =>
    obtain ⟨k1, zs, k2, k3, k4⟩ := hH
    exact ⟨k1, zs, by rw [h1]; exact k2, by rw [h2 L rfl]; exact k3, k4⟩

theorem HoldAt.other {s s' : St} (hwf : s.wf) {A B : Nat} {ys : List Item} {next : Int} {L1 L1' L2 : Option Nat} (hH : HoldAt s B ys next L2) (M : Moves s s' A L1 L1') (ap : Apart A B L1 L2) : HoldAt s' B ys next L2 :=
  hH.keep (M.rest B (hH.lt hwf) (Ne.symm ap.ab) ap.l1) fun l e => M.rest l (hH.list_lt hwf e) (fun e' => ap.l2 (by rw [e, e'])) (fun e' => ap.ll l e' e)

theorem Apart.move {s s' : St} (hwf : s.wf) {A B : Nat} {ys : List Item} {next : Int} {L1 L1' L2 : Option Nat} (ap : Apart A B L1 L2) (hH : HoldAt s B ys next L2) (M : Moves s s' A L1 L1') : Apart A B L1' L2 where
  ab := ap.ab
  l1 := fun e => by
    rcases M.fresh B e with h | h
    · exact ap.l1 h
    · have := hH.lt hwf; omega
  l2 := ap.l2
  ll := fun l e e' => by
    rcases M.fresh l e with h | h
    · exact ap.ll l h e'
    · have := hH.list_lt hwf e'; omega

theorem HoldAt.tmove {s s' : St} (hwf : s.wf) {h n z : Nat} {xs : List Item} {next : Int} {L : Option Nat} {k k' : SK} (hH : HoldAt s h xs next L) (hgr : Grows s k n z) (M : TMoves s s' k k') : HoldAt s' h xs next L := by
  have hlt := hH.lt hwf
  refine hH.keep (M.rest h hlt fun z e => ?_) fun l e => M.rest l (hH.list_lt hwf e) fun z e' => ?_
  · cases L with
    | none => exact hgr.ne e h hH.2 (by simp) rfl
    | some L => obtain ⟨_, zs, h2, _⟩ := hH; exact hgr.ne e h h2 (by simp) rfl
  · subst e
    obtain ⟨_, zs, _, h3, _⟩ := hH
    exact hgr.ne e' l h3 (by simp) rfl

theorem _root_.Go.PM.Grows.hne {s : St} {h n z t z' : Nat} {xs : List Item} {next : Int} {L : Option Nat} {k : SK} (hgr : Grows s k n z) (hH : HoldAt s h xs next L) (hk : k = .tok t z') : t ≠ h ∧ L ≠ some t := by
  cases L with
  | none => exact ⟨hgr.ne hk h hH.2 (by simp), by simp⟩
  | some L =>
    obtain ⟨_, zs, h2, h3, _⟩ := hH
    exact ⟨hgr.ne hk h h2 (by simp), fun e => hgr.ne hk L h3 (by simp) (by cases e; rfl)⟩

theorem at0_mem {l : List Item} {i : Nat} (h : i < l.length) : at0 l i ∈ l := by
  unfold at0
  rw [List.getElem?_eq_getElem h]
  exact List.getElem_mem h

def tk (l : List Int) (i : Nat) : Int := l[i]?.getD 0

theorem map_tk {l : List Int} {i : Nat} (h : i < l.length) : (l.map (PV.int .i64))[i]? = some (.int .i64 (tk l i)) := by
  unfold tk
  rw [List.getElem?_map, List.getElem?_eq_getElem h]; rfl

theorem due_perm {xs out rest : List Item} {now : Int} (h1 : out.Perm (xs.filter (fun a => decide (a.tick ≤ now)))) (h2 : rest.Perm (xs.filter (fun a => decide (now < a.tick)))) : (out ++ rest).Perm xs := by
  have e : (fun a : Item => decide (now < a.tick)) = fun a => !decide (a.tick ≤ now) := by
    funext a
    by_cases h : a.tick ≤ now
    · simp [h, Int.not_lt.2 h]
    · simp [h, Int.not_le.1 h]
  rw [e] at h2
  exact (h1.append h2).trans (List.filter_append_perm _ xs)

theorem tick_nlt {a b : Item} {now : Int} (h1 : a.tick ≤ now) (h2 : now < b.tick) : b.lt a = false := by
  simp only [Item.lt, Bool.or_eq_false_iff, Bool.and_eq_false_iff, decide_eq_false_iff_not]
  omega

/-! ## Sorted lists are one -/

theorem lt_total {a b : Item} (h : a.lt b = false) (k : b.lt a = false) : a.order = b.order := by
  simp only [Item.lt, Bool.or_eq_false_iff, Bool.and_eq_false_iff, decide_eq_false_iff_not] at *
  omega

theorem sorted_one {l m : List Item} (hp : l.Perm m) (h1 : l.Pairwise (fun a b => b.lt a = false)) (h2 : m.Pairwise (fun a b => b.lt a = false)) (hd : (l.map Item.order).Nodup) : l = m := by
  refine List.Perm.eq_of_pairwise (le := fun a b => b.lt a = false) (fun a b ha hb hab hba => ?_) h1 h2 hp
  have hb' := hp.symm.subset hb
  have ho := lt_total hba hab
  obtain ⟨i, hi, rfl⟩ := List.mem_iff_getElem.1 ha
  obtain ⟨j, hj, rfl⟩ := List.mem_iff_getElem.1 hb'
  have : i = j := by
    have hp2 := List.pairwise_iff_getElem.1 hd
    rcases Nat.lt_trichotomy i j with h | h | h
    · exact absurd (by rw [List.getElem_map, List.getElem_map]; exact ho) (hp2 i j (by simpa using hi) (by simpa using hj) h)
    · exact h
    · exact absurd (by rw [List.getElem_map, List.getElem_map]; exact ho.symm) (hp2 j i (by simpa using hj) (by simpa using hi) h)
  subst this
  rfl
end Go.Proofs
