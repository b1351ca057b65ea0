import Derived.Test.YtegdcamfhldcoaaH1
namespace Go.Proofs
set_option linter.unusedVariables false

/-! ## Heaps -/

theorem lt_asymm {a b : Item} (h : a.lt b = true) : b.lt a = false := by
  simp only [Item.lt, Bool.or_eq_true, Bool.and_eq_true, decide_eq_true_eq, Bool.or_eq_false_iff, Bool.and_eq_false_iff, decide_eq_false_iff_not] at *
  omega
theorem lt_irrefl (a : Item) : a.lt a = false := by
  simp [Item.lt]
theorem nlt_trans {a b c : Item} (h : a.lt b = false) (k : b.lt c = false) : a.lt c = false := by
  simp only [Item.lt, Bool.or_eq_false_iff, Bool.and_eq_false_iff, decide_eq_false_iff_not] at *
  omega
theorem lt_of_lt_nlt {a b c : Item} (h : a.lt b = true) (k : c.lt b = false) : c.lt a = false := by
  simp only [Item.lt, Bool.or_eq_true, Bool.and_eq_true, decide_eq_true_eq, Bool.or_eq_false_iff, Bool.and_eq_false_iff, decide_eq_false_iff_not] at *
  omega

def swf (f : Nat → Item) (i j : Nat) : Nat → Item := fun k => if k = j then f i else if k = i then f j else f k

def HeapF (f : Nat → Item) (n lo : Nat) : Prop := ∀ k, 0 < k → k < n → lo ≤ (k - 1) / 2 → (f k).lt (f ((k - 1) / 2)) = false
def UpInv (f : Nat → Item) (n j : Nat) : Prop :=
  (∀ k, 0 < k → k < n → k ≠ j → (f k).lt (f ((k - 1) / 2)) = false) ∧ ∀ c, 0 < c → c < n → (c - 1) / 2 = j → 0 < j → (f c).lt (f ((j - 1) / 2)) = false
def DownInv (f : Nat → Item) (n lo i : Nat) : Prop :=
  (∀ k, 0 < k → k < n → lo ≤ (k - 1) / 2 → (k - 1) / 2 ≠ i → (f k).lt (f ((k - 1) / 2)) = false) ∧ ∀ c, 0 < c → c < n → (c - 1) / 2 = i → 0 < i → lo ≤ (i - 1) / 2 → (f c).lt (f ((i - 1) / 2)) = false

theorem UpInv.step {f : Nat → Item} {n j : Nat} (h : UpInv f n j) (hj : 0 < j) (hl : (f j).lt (f ((j - 1) / 2)) = true) (hn : j < n) : UpInv (swf f ((j - 1) / 2) j) n ((j - 1) / 2) := by
  obtain ⟨h1, h2⟩ := h
  have hij : (j - 1) / 2 < j := by omega
  generalize hi : (j - 1) / 2 = i at *
  refine ⟨fun k k0 kn ki => ?_, fun c c0 cn ci i0 => ?_⟩
  · have hp : (k - 1) / 2 < k := by omega
    generalize hpk : (k - 1) / 2 = p at *
    unfold swf
    by_cases kj : k = j
    · subst kj
      have : p = i := by omega
      subst this
      rw [if_pos rfl, if_neg (by omega), if_pos rfl]
      exact lt_asymm hl
    · rw [if_neg kj, if_neg ki]
      by_cases pj : p = j
      · rw [if_pos pj]
        have := h2 k k0 kn (by omega) hj
        exact this
      · rw [if_neg pj]
        have := h1 k k0 kn kj
        rw [hpk] at this
        by_cases pi : p = i
        · rw [if_pos pi]
          rw [pi] at this
          exact lt_of_lt_nlt hl this
        · rw [if_neg pi]; exact this
  · have hpi : (i - 1) / 2 < i := by omega
    unfold swf
    rw [if_neg (show ¬ (i - 1) / 2 = j by omega), if_neg (show ¬ (i - 1) / 2 = i by omega)]
    have hii := h1 i i0 (by omega) (by omega)
    by_cases cj : c = j
    · rw [if_pos cj]; exact hii
    · rw [if_neg cj, if_neg (show ¬ c = i by omega)]
      have := h1 c c0 cn cj
      rw [ci] at this
      exact nlt_trans this hii

theorem UpInv.done {f : Nat → Item} {n j : Nat} (h : UpInv f n j) (hl : j = 0 ∨ (f j).lt (f ((j - 1) / 2)) = false) : HeapF f n 0 := by
  intro k k0 kn _
  by_cases kj : k = j
  · subst kj
    rcases hl with hl | hl
    · omega
    · exact hl
  · exact h.1 k k0 kn kj

theorem DownInv.step {f : Nat → Item} {n lo i j : Nat} (h : DownInv f n lo i) (hj : 0 < j) (hji : (j - 1) / 2 = i) (hjn : j < n) (hl : (f j).lt (f i) = true) (ho : ∀ c, 0 < c → c < n → (c - 1) / 2 = i → (f c).lt (f j) = false) (hlo : lo ≤ i) : DownInv (swf f i j) n lo j := by
  obtain ⟨h1, h2⟩ := h
  have hij : i < j := by omega
  refine ⟨fun k k0 kn kl kj => ?_, fun c c0 cn cj j0 jl => ?_⟩
  · have hp : (k - 1) / 2 < k := by omega
    generalize hpk : (k - 1) / 2 = p at *
    unfold swf
    by_cases kj' : k = j
    · subst kj'
      have : p = i := by omega
      subst this
      rw [if_pos rfl, if_neg (by omega), if_pos rfl]
      exact lt_asymm hl
    · rw [if_neg kj', if_neg kj]
      by_cases pi : p = i
      · rw [if_pos pi]
        rw [if_neg (show ¬ k = i by omega)]
        exact ho k k0 kn (by omega)
      · rw [if_neg pi]
        by_cases ki : k = i
        · rw [if_pos ki]
          have := h2 j hj hjn hji (by omega) (by rw [← ki, hpk]; exact kl)
          rw [← ki, hpk] at this
          exact this
        · rw [if_neg ki]
          have := h1 k k0 kn (by rw [hpk]; exact kl) (by omega)
          rw [hpk] at this
          exact this
  · unfold swf
    rw [hji, if_neg (show ¬ c = j by omega), if_neg (show ¬ c = i by omega), if_neg (show ¬ i = j by omega), if_pos rfl]
    have := h1 c c0 cn (by omega) (by omega)
    rw [cj] at this
    exact this

theorem DownInv.done {f : Nat → Item} {n lo i : Nat} (h : DownInv f n lo i) (hl : ∀ c, 0 < c → c < n → (c - 1) / 2 = i → (f c).lt (f i) = false) : HeapF f n lo := by
  intro k k0 kn kl
  by_cases hk : (k - 1) / 2 = i
  · rw [hk]; exact hl k k0 kn hk
  · exact h.1 k k0 kn kl hk

/-- the child that is asked -/
def Sel (f : Nat → Item) (m i j : Nat) : Prop := j = 2 * i + 1 ∧ (2 * i + 2 < m → (f (2 * i + 2)).lt (f (2 * i + 1)) = false) ∨ j = 2 * i + 2 ∧ (f (2 * i + 2)).lt (f (2 * i + 1)) = true ∧ 2 * i + 2 < m

theorem Sel.least {f : Nat → Item} {m i j : Nat} (h : Sel f m i j) : ∀ c, 0 < c → c < m → (c - 1) / 2 = i → (f c).lt (f j) = false := by
  intro c c0 cm ci
  have : c = 2 * i + 1 ∨ c = 2 * i + 2 := by omega
  rcases h with ⟨rfl, h⟩ | ⟨rfl, h, h'⟩
  · rcases this with rfl | rfl
    · exact lt_irrefl _
    · exact h cm
  · rcases this with rfl | rfl
    · exact lt_asymm h
    · exact lt_irrefl _

theorem DownInv.done' {f : Nat → Item} {m lo i j : Nat} (h : DownInv f m lo i) (hs : Sel f m i j) (hl : (f j).lt (f i) = false) : HeapF f m lo :=
  h.done fun c c0 cm ci => nlt_trans (hs.least c c0 cm ci) hl

theorem DownInv.step' {f : Nat → Item} {m lo i j : Nat} (h : DownInv f m lo i) (hs : Sel f m i j) (hm : 2 * i + 1 < m) (hl : (f j).lt (f i) = true) (hlo : lo ≤ i) : DownInv (swf f i j) m lo j := by
  have h1 : 0 < j ∧ (j - 1) / 2 = i ∧ j < m := by
    rcases hs with ⟨rfl, _⟩ | ⟨rfl, _, h'⟩ <;> omega
  exact h.step h1.1 h1.2.1 h1.2.2 hl hs.least hlo

theorem HeapF.root {f : Nat → Item} {n : Nat} (h : HeapF f n 0) : ∀ k, k < n → (f k).lt (f 0) = false := by
  intro k
  induction k using Nat.strongRecOn with
  | _ k ih =>
    intro kn
    by_cases k0 : k = 0
    · subst k0; exact lt_irrefl _
    · have := h k (by omega) kn (Nat.zero_le _)
      exact nlt_trans this (ih ((k - 1) / 2) (by omega) (by omega))

/-! ## Lists -/

def at0 (l : List Item) (i : Nat) : Item := l[i]?.getD ⟨0, 0, 0⟩

def swl (l : List Item) (i j : Nat) : List Item := (l.set i (at0 l j)).set j (at0 l i)

theorem at0_swl {l : List Item} {i j : Nat} (hi : i < l.length) (hj : j < l.length) : at0 (swl l i j) = swf (at0 l) i j := by
  funext k
  unfold at0 swl swf
  rw [List.getElem?_set, List.getElem?_set]
  simp only [List.length_set]
  by_cases h1 : k = j
  · subst h1
    simp [hj, at0]
  · by_cases h2 : k = i
    · subst h2
      simp [h1, Ne.symm h1, hi, at0]
    · simp [h1, h2, Ne.symm h1, Ne.symm h2]

structure Swaps (l m : List Item) (n : Nat) : Prop where
  len : m.length = l.length
  perm : (m.take n).Perm (l.take n)
  rest : m.drop n = l.drop n

theorem Swaps.refl (l : List Item) (n : Nat) : Swaps l l n := ⟨rfl, .refl _, rfl⟩
theorem Swaps.trans {a b c : List Item} {n : Nat} (h : Swaps a b n) (k : Swaps b c n) : Swaps a c n := ⟨k.len.trans h.len, k.perm.trans h.perm, k.rest.trans h.rest⟩

theorem set_set_perm : ∀ (l : List Item) (i j : Nat) (a b : Item), l[i]? = some a → l[j]? = some b → ((l.set i b).set j a).Perm l := by
  intro l i j a b hi hj
  obtain ⟨h1, e1⟩ := List.getElem?_eq_some_iff.1 hi
  obtain ⟨h2, e2⟩ := List.getElem?_eq_some_iff.1 hj
  subst e1 e2
  exact List.set_set_perm h1 h2

theorem Swaps.swl {l : List Item} {i j n : Nat} (hi : i < n) (hj : j < n) (hn : n ≤ l.length) : Swaps l (swl l i j) n := by
  have e1 : l[i]? = some (at0 l i) := by unfold at0; rw [List.getElem?_eq_getElem (by omega)]; rfl
  have e2 : l[j]? = some (at0 l j) := by unfold at0; rw [List.getElem?_eq_getElem (by omega)]; rfl
  refine ⟨by simp [Proofs.swl], ?_, ?_⟩
  · unfold Proofs.swl
    rw [List.take_set, List.take_set]
    exact set_set_perm _ _ _ _ _ (by rw [List.getElem?_take_of_lt hi]; exact e1) (by rw [List.getElem?_take_of_lt hj]; exact e2)
  · unfold Proofs.swl
    rw [List.drop_set_of_lt hj, List.drop_set_of_lt hi]

theorem at0_push {zs : List Item} {x : Item} {n k : Nat} (hn : n ≤ zs.length) (hk : k < n) : at0 (zs.take n ++ [x]) k = at0 zs k := by
  unfold at0
  rw [List.getElem?_append_left (by simp; omega), List.getElem?_take_of_lt hk]

theorem UpInv.push {zs : List Item} {x : Item} {n : Nat} (h : HeapF (at0 zs) n 0) (hn : n ≤ zs.length) : UpInv (at0 (zs.take n ++ [x])) (n + 1) n := by
  refine ⟨fun k k0 kn kj => ?_, fun c c0 cn cj j0 => by omega⟩
  rw [at0_push hn (by omega), at0_push hn (by omega)]
  exact h k k0 (by omega) (Nat.zero_le _)

theorem DownInv.pop {zs : List Item} {n : Nat} (h : HeapF (at0 zs) (n + 1) 0) (hn : n + 1 ≤ zs.length) : DownInv (at0 (swl zs 0 n)) n 0 0 := by
  rw [at0_swl (by omega) (by omega)]
  refine ⟨fun k k0 kn kl kj => ?_, fun c c0 cn cj j0 => by omega⟩
  unfold swf
  rw [if_neg (show ¬ k = n by omega), if_neg (show ¬ k = 0 by omega), if_neg (show ¬ (k - 1) / 2 = n by omega), if_neg (show ¬ (k - 1) / 2 = 0 by omega)]
  exact h k k0 (by omega) (Nat.zero_le _)

theorem take_succ_at0 {l : List Item} {n : Nat} (h : n < l.length) : l.take (n + 1) = l.take n ++ [at0 l n] := by
  unfold at0
  rw [List.take_add_one, List.getElem?_eq_getElem h]
  simp

theorem at0_rest {l m : List Item} {n k : Nat} (h : Swaps l m n) (hk : n ≤ k) : at0 m k = at0 l k := by
  unfold at0
  have h1 : (m.drop n)[k - n]? = m[k]? := by rw [List.getElem?_drop]; congr 1; omega
  have h2 : (l.drop n)[k - n]? = l[k]? := by rw [List.getElem?_drop]; congr 1; omega
  rw [← h1, ← h2, h.rest]

theorem pop_perm {zs ys : List Item} {n : Nat} (hn : n + 1 ≤ zs.length) (h : Swaps (swl zs 0 n) ys n) : (ys.take n ++ [at0 zs 0]).Perm (zs.take (n + 1)) := by
  have h1 := (Swaps.swl (l := zs) (i := 0) (j := n) (n := n + 1) (by omega) (by omega) hn)
  have h2 : (swl zs 0 n).take (n + 1) = (swl zs 0 n).take n ++ [at0 zs 0] := by
    rw [take_succ_at0 (by rw [h1.len]; omega), at0_swl (by omega) (by omega)]
    simp [swf]
  exact ((h.perm.append_right _).trans (by rw [← h2])).trans h1.perm

theorem HeapF.half (f : Nat → Item) (n : Nat) : HeapF f n (n / 2) := by
  intro k k0 kn kl
  omega

theorem HeapF.downInv {f : Nat → Item} {n k : Nat} (h : HeapF f n (k + 1)) : DownInv f n k k :=
  ⟨fun p p0 pn pl pk => h p p0 pn (by omega), fun c c0 cn ci i0 il => by omega⟩

theorem map_swl (l : List Item) (i j : Nat) : (swl l i j).map Item.pv = ((l.map Item.pv).set i (at0 l j).pv).set j (at0 l i).pv := by
  unfold swl
  rw [List.map_set, List.map_set]

theorem map_at0 {l : List Item} {i : Nat} (h : i < l.length) : (l.map Item.pv)[i]? = some (at0 l i).pv := by
  unfold at0
  rw [List.getElem?_map, List.getElem?_eq_getElem h]; rfl
end Go.Proofs
