import Derived.Test.YtafpofckmikfcaaB3
import Derived.Test.YtafpofckmikfcaaB2
set_option linter.unusedVariables false
set_option linter.unusedSimpArgs false
namespace Go.Proofs
open Go.PM
set_option maxHeartbeats 2000000
attribute [local go_sem] List.set_set List.map_nil List.length_nil List.length_set Int.toNat_natCast Nat.zero_add Tab.pv
theorem isEls_none (P : Program) (e : TypeId) : isEls P e [] := fun p hp => by cases hp
def ListR (s' : St) (lo : Nat) (v : PV) (els : List PV) : Prop := (∃ k, v = .sl k els) ∨ ∃ L ty, v = .own L 0 els.length ∧ lo < L ∧ s'.blk L = some (.row ty els)
def TenR (s' : St) (lo : Nat) (el : PV) (x : Ten) : Prop := ∃ vw vs, el = .agg [.int .i64 x.unit, .int .u32 x.fns, .int .i64 x.queue, vw, vs] ∧ ListR s' lo vw (x.wins.map Win.pv) ∧ ListR s' lo vs (x.slts.map Slt.pv)
structure OddR (s0 s' : St) (t' : Tab) : Prop where
  fr : Fr s0 s'
  lt : s0.nxt + 1 < s'.nxt
  row : ∃ A els, s'.blk s0.nxt = some (.row 24 [.agg [.int .i64 t'.frame, .own A 0 t'.tens.length]]) ∧ s0.nxt + 1 < A ∧ s'.blk A = some (.row 47 els) ∧ els.length = t'.tens.length ∧ ∀ j (h : j < els.length) (h' : j < t'.tens.length), TenR s' (s0.nxt + 1) els[j] t'.tens[j]
theorem ListR.frz {s' : St} {lo : Nat} {v : PV} {els : List PV} (h : ListR s' lo v els) {q : Nat → Bool} (hq : ∀ i, lo < i → q i = false) (n : Nat) (hf : ∀ e ∈ els, PV.frz true s' q n e = e) : PV.frz true s' q (n + 1) v = .sl .unk els := by
  have hm : els.map (PV.frz true s' q n) = els := by
    conv => rhs; rw [← List.map_id els]
    exact List.map_congr_left fun e he => by rw [hf e he]; rfl
  rcases h with ⟨k, rfl⟩ | ⟨L, ty, rfl, h2, h3⟩
  · unfold PV.frz
    rw [hm]; rfl
  · unfold PV.frz
    rw [if_neg (by rw [hq L h2]; simp), h3]
    simp only [Nat.zero_add, List.drop_zero, Nat.le_refl, if_true, List.take_length, hm]
theorem TenR.frz {s' : St} {lo : Nat} {el : PV} {x : Ten} (h : TenR s' lo el x) {q : Nat → Bool} (hq : ∀ i, lo < i → q i = false) : PV.frz true s' q 5 el = x.pv := by
  obtain ⟨vw, vs, rfl, hw, hs⟩ := h
  have e1 := hw.frz hq 3 (fun e he => by obtain ⟨w, _, rfl⟩ := List.mem_map.1 he; simp [Win.pv, PV.frz, PV.weak])
  have e2 := hs.frz hq 3 (fun e he => by obtain ⟨w, _, rfl⟩ := List.mem_map.1 he; simp [Slt.pv, PV.frz, PV.weak])
  unfold PV.frz
  simp only [List.map_cons, List.map_nil, e1, e2]
  simp [PV.frz, PV.weak, Ten.pv]
theorem OddR.frz {s0 s' : St} {t' : Tab} (h : OddR s0 s' t') {A : Nat} (hA : s'.blk s0.nxt = some (.row 24 [.agg [.int .i64 t'.frame, .own A 0 t'.tens.length]])) : PV.frz true s' (fun i => decide (i < s0.nxt)) 7 (.agg [.int .i64 t'.frame, .own A 0 t'.tens.length]) = t'.pv := by
  obtain ⟨B, els, h1, h2, h3, h4, h5⟩ := h.row
  rw [h1] at hA
  have : B = A := by simpa using hA
  subst this
  have hq : ∀ i, s0.nxt + 1 < i → (fun i => decide (i < s0.nxt)) i = false := fun i hi => decide_eq_false (by omega)
  have hm : els.map (PV.frz true s' (fun i => decide (i < s0.nxt)) 5) = t'.tens.map Ten.pv := by
    refine List.ext_getElem (by simp [h4]) fun j a b => ?_
    simp only [List.length_map] at a b
    rw [List.getElem_map, List.getElem_map]
    exact (h5 j a b).frz hq
  unfold PV.frz
  simp only [List.map_cons, List.map_nil]
  unfold PV.frz
  rw [if_neg (by rw [decide_eq_false (by omega : ¬ B < s0.nxt)]; simp), h3]
  simp only [Nat.zero_add, List.drop_zero, ← h4, Nat.le_refl, if_true, List.take_length, hm]
  simp [PV.weak, Tab.pv]
theorem ListR.mono {s' s'' : St} {lo : Nat} {v : PV} {els : List PV} (h : ListR s' lo v els) (hb : ∀ i, lo < i → s''.blk i = s'.blk i) : ListR s'' lo v els := by
  rcases h with h | ⟨L, ty, h1, h2, h3⟩
  · exact .inl h
  · exact .inr ⟨L, ty, h1, h2, by rw [hb L h2]; exact h3⟩
theorem TenR.mono {s' s'' : St} {lo : Nat} {el : PV} {x : Ten} (h : TenR s' lo el x) (hb : ∀ i, lo < i → s''.blk i = s'.blk i) : TenR s'' lo el x := by
  obtain ⟨vw, vs, h1, h2, h3⟩ := h
  exact ⟨vw, vs, h1, h2.mono hb, h3.mono hb⟩
theorem TenR.same (s' : St) (lo : Nat) (x : Ten) : TenR s' lo x.pv x := ⟨_, _, rfl, .inl ⟨_, rfl⟩, .inl ⟨_, rfl⟩⟩
theorem OddR.set {s0 s' : St} {t' : Tab} (h : OddR s0 s' t') (b : Option Blk) : OddR s0 (s'.set (s0.nxt + 1) b) t' where
  fr := h.fr.set (Nat.le_succ _) h.lt _
  lt := h.lt
  row := by
    obtain ⟨B, els, h1, h2, h3, h4, h5⟩ := h.row
    refine ⟨B, els, by rw [blk_set, if_neg (by omega)]; exact h1, h2, by rw [blk_set, if_neg (by omega)]; exact h3, h4, fun j a b => (h5 j a b).mono fun i hi => by rw [blk_set, if_neg (by omega)]⟩
theorem Run.abs {P : Program} {N : Nat} {k : List KI} {e : Env} {s : St} {rt : Env → St → Prop} (I : St → Prop) (h1 : I s) (h2 : ∀ s', I s' → Run P N k e s' rt) : Run P N k e s rt := h2 s h1
theorem tens_set {s' : St} {lo : Nat} {tens : List Ten} {k : Nat} {X : PV} {x' : Ten} (hX : TenR s' lo X x') : ∀ j (h : j < ((tens.map Ten.pv).set k X).length) (h' : j < (tens.set k x').length), TenR s' lo (((tens.map Ten.pv).set k X)[j]) ((tens.set k x')[j]) := by
  intro j h h'
  simp only [List.getElem_set]
  split
  · exact hX
  · rw [List.getElem_map]; exact TenR.same _ _ _
theorem odd_done {s0 s' : St} {t : Tab} {k : Nat} {X : PV} {x' : Ten} {f : Int} {A : Nat} (fr : Fr s0 s') (lt : s0.nxt + 1 < s'.nxt) (b4 : s'.blk s0.nxt = some (.row 24 [.agg [.int .i64 f, .own A 0 t.tens.length]])) (hA : s0.nxt + 1 < A)
    (bA : s'.blk A = some (.row 47 ((t.tens.map Ten.pv).set k X))) (hX : TenR s' (s0.nxt + 1) X x') : OddR s0 s' ⟨f, t.tens.set k x'⟩ :=
  ⟨fr, lt, A, _, by rw [List.length_set]; exact b4, hA, bA, by simp, tens_set hX⟩
theorem odd_app {s0 s' : St} {t : Tab} {k : Nat} {X : PV} {x' : Ten} {f : Int} {A : Nat} (fr : Fr s0 s') (lt : s0.nxt + 1 < s'.nxt) (b4 : s'.blk s0.nxt = some (.row 24 [.agg [.int .i64 f, .own A 0 (t.tens.length + 1)]])) (hA : s0.nxt + 1 < A)
    (bA : s'.blk A = some (.row 47 ((t.tens.map Ten.pv).set k X ++ [X]))) (hX : TenR s' (s0.nxt + 1) X x') : OddR s0 s' ⟨f, t.tens.set k x' ++ [x']⟩ := by
  refine ⟨fr, lt, A, _, by rw [List.length_append, List.length_set]; exact b4, hA, bA, by simp, fun j h h' => ?_⟩
  by_cases hj : j < (t.tens.set k x').length
  · rw [List.getElem_append_left (by simpa using hj), List.getElem_append_left hj]
    exact tens_set hX j (by simpa using hj) hj
  · have e : j = (t.tens.set k x').length := by simp at h' hj ⊢; omega
    have e2 : ((t.tens.map Ten.pv).set k X).length = (t.tens.set k x').length := by simp
    rw [List.getElem_append_right (by omega), List.getElem_append_right (by omega)]
    simp only [e, e2, Nat.sub_self, List.getElem_cons_zero]
    exact hX
def modF {α : Type} (l : List α) (i : Nat) (f : α → α) : List α := match l[i]? with
  | some v => l.set i (f v)
  | none => l
theorem modF_lt {α : Type} {l : List α} {i : Nat} {f : α → α} {v : α} (h : i < l.length) (e : l[i] = v) : modF l i f = l.set i (f v) := by
  unfold modF; rw [List.getElem?_eq_getElem h, e]
theorem modF_ge {α : Type} {l : List α} {i : Nat} {f : α → α} (h : l.length ≤ i) : modF l i f = l := by
  unfold modF; rw [List.getElem?_eq_none h]
theorem modF_len {α : Type} (l : List α) (i : Nat) (f : α → α) : (modF l i f).length = l.length := by
  unfold modF; split <;> simp
theorem modF_mem {α : Type} {l : List α} {i : Nat} {f : α → α} {y : α} (h : y ∈ modF l i f) : y ∈ l ∨ ∃ v ∈ l, y = f v := by
  unfold modF at h
  split at h
  · rename_i v hv
    rcases List.mem_or_eq_of_mem_set h with h | h
    · exact .inl h
    · exact .inr ⟨v, List.mem_of_getElem? hv, h⟩
  · exact .inl h
def oddX (x : Ten) (w : Int) (wi si : Nat) (at_ n : Int) : Ten :=
  ⟨if w = 1 then n else x.unit, if w = 3 then IntKind.u32.wrap n else x.fns, if w = 2 then n else x.queue,
   if w = 5 then x.wins ++ [⟨ibits .and .i64 n 3, ibits .and .i64 at_ 1023, ibits .and .i64 n 511, 1 + ibits .and .i64 at_ 31⟩]
   else if w = 6 then modF x.wins wi fun v => ⟨v.space, v.virt, n, v.cnt⟩
   else if w = 7 then modF x.wins wi fun v => ⟨v.space, n, v.phys, v.cnt⟩
   else if w = 8 then modF x.wins wi fun v => ⟨v.space, v.virt, v.phys, n⟩
   else if w = 13 then modF x.wins wi fun v => ⟨ibits .and .i64 n 7, v.virt, v.phys, v.cnt⟩ else x.wins,
   if w = 4 then x.slts ++ [⟨n, 72⟩] else if w = 9 then modF x.slts si fun v => ⟨n, v.len⟩ else if w = 10 then modF x.slts si fun v => ⟨v.pos, n⟩ else if w = 12 then [] else x.slts⟩
def oddG (t : Tab) (k : Nat) (x : Ten) (w : Int) (wi si : Nat) (at_ n : Int) : Tab :=
  ⟨if w = 0 then n else t.frame, t.tens.set k (oddX x w wi si at_ n) ++ if w = 11 then [x] else []⟩
def oddF (t : Tab) (what at_ n : Int) : Tab :=
  match t.tens[(withinI at_ 0 ((t.tens.length : Int) - 1)).toNat]? with
  | none => t
  | some x => oddG t (withinI at_ 0 ((t.tens.length : Int) - 1)).toNat x (withinI what 0 13) (withinI n 0 5).toNat (withinI n 0 2).toNat at_ n
theorem oddF_eq {t : Tab} {what at_ n wv : Int} {k wi si : Nat} {x : Ten} (hkw : withinI at_ 0 ((t.tens.length : Int) - 1) = k) (hkl : k < t.tens.length) (hxe : t.tens[k] = x) (hwv : withinI what 0 13 = wv) (hwi : withinI n 0 5 = wi) (hsi : withinI n 0 2 = si) :
    oddF t what at_ n = oddG t k x wv wi si at_ n := by
  unfold oddF
  rw [hkw, hwv, hwi, hsi, Int.toNat_natCast, List.getElem?_eq_getElem hkl, hxe]
  simp only [Int.toNat_natCast]
theorem oddX_ok {x : Ten} (h : x.ok) {m : Nat} (hm : m ≤ 1000) (h1 : x.wins.length ≤ m) (h2 : x.slts.length ≤ m) (w : Int) (wi si : Nat) {at_ n : Int} (hn : I64 n) : (oddX x w wi si at_ n).ok ∧ (oddX x w wi si at_ n).wins.length ≤ m + 1 ∧ (oddX x w wi si at_ n).slts.length ≤ m + 1 := by
  have hb0 : 0 ≤ ibits .and .i64 n 3 ∧ ibits .and .i64 n 3 ≤ 3 := ibits_and_le n 3 (by decide)
  have hb1 : 0 ≤ ibits .and .i64 at_ 1023 ∧ ibits .and .i64 at_ 1023 ≤ 1023 := ibits_and_le at_ 1023 (by decide)
  have hb2 : 0 ≤ ibits .and .i64 n 511 ∧ ibits .and .i64 n 511 ≤ 511 := ibits_and_le n 511 (by decide)
  have hb3 : 0 ≤ ibits .and .i64 at_ 31 ∧ ibits .and .i64 at_ 31 ≤ 31 := ibits_and_le at_ 31 (by decide)
  have hb4 : 0 ≤ ibits .and .i64 n 7 ∧ ibits .and .i64 n 7 ≤ 7 := ibits_and_le n 7 (by decide)
  have lw : (oddX x w wi si at_ n).wins.length ≤ m + 1 := by
    simp only [oddX]; repeat' split
    all_goals (try simp only [modF_len, List.length_append, List.length_cons, List.length_nil]); omega
  have ls : (oddX x w wi si at_ n).slts.length ≤ m + 1 := by
    simp only [oddX]; repeat' split
    all_goals (try simp only [modF_len, List.length_append, List.length_cons, List.length_nil]); omega
  refine ⟨⟨?_, ?_, ?_, ?_, ?_, by omega, by omega⟩, lw, ls⟩
  · simp only [oddX]; split <;> first | exact hn | exact h.unit
  · simp only [oddX]; split <;> first | exact U32_wrap n | exact h.fns
  · simp only [oddX]; split <;> first | exact hn | exact h.queue
  · intro v hv
    simp only [oddX] at hv
    split at hv
    · rcases List.mem_append.1 hv with hv | hv
      · exact h.wins v hv
      · rw [List.mem_singleton.1 hv]; exact ⟨⟨by simp only; omega, by simp only; omega⟩, ⟨by simp only; omega, by simp only; omega⟩, ⟨by simp only; omega, by simp only; omega⟩, ⟨by simp only; omega, by simp only; omega⟩⟩
    all_goals
      split at hv
      · rcases modF_mem hv with hv | ⟨u, hu, rfl⟩
        · exact h.wins v hv
        · have := h.wins u hu; exact ⟨this.space, this.virt, hn, this.cnt⟩
      split at hv
      · rcases modF_mem hv with hv | ⟨u, hu, rfl⟩
        · exact h.wins v hv
        · have := h.wins u hu; exact ⟨this.space, hn, this.phys, this.cnt⟩
      split at hv
      · rcases modF_mem hv with hv | ⟨u, hu, rfl⟩
        · exact h.wins v hv
        · have := h.wins u hu; exact ⟨this.space, this.virt, this.phys, hn⟩
      split at hv
      · rcases modF_mem hv with hv | ⟨u, hu, rfl⟩
        · exact h.wins v hv
        · have := h.wins u hu; exact ⟨⟨by simp only; omega, by simp only; omega⟩, this.virt, this.phys, this.cnt⟩
      · exact h.wins v hv
  · intro v hv
    simp only [oddX] at hv
    split at hv
    · rcases List.mem_append.1 hv with hv | hv
      · exact h.slts v hv
      · rw [List.mem_singleton.1 hv]; exact ⟨hn, (show I64 72 by decide)⟩
    split at hv
    · rcases modF_mem hv with hv | ⟨u, hu, rfl⟩
      · exact h.slts v hv
      · have := h.slts u hu; exact ⟨hn, this.len⟩
    split at hv
    · rcases modF_mem hv with hv | ⟨u, hu, rfl⟩
      · exact h.slts v hv
      · have := h.slts u hu; exact ⟨this.pos, hn⟩
    split at hv
    · cases hv
    · exact h.slts v hv
theorem few_app {t : Tab} {m : Nat} (ht : t.few (m + 1)) {x : Ten} (hx : x.ok) (h1 : x.wins.length ≤ m + 1) (h2 : x.slts.length ≤ m + 1) (hn : t.tens.length ≤ m) (hm : m ≤ 1000) : Tab.few ⟨t.frame, t.tens ++ [x]⟩ (m + 1) := by
  refine ⟨⟨ht.ok.frame, fun y hy => ?_, by simp; omega⟩, by simp; omega, fun y hy => ?_, fun y hy => ?_⟩
  · rcases List.mem_append.1 hy with h | h
    · exact ht.ok.tens y h
    · rw [List.mem_singleton.1 h]; exact hx
  · rcases List.mem_append.1 hy with h | h
    · exact ht.nw y h
    · rw [List.mem_singleton.1 h]; exact h1
  · rcases List.mem_append.1 hy with h | h
    · exact ht.ns y h
    · rw [List.mem_singleton.1 h]; exact h2
theorem few_set {t : Tab} {m : Nat} (ht : t.few m) {k : Nat} {x' : Ten} (h1 : x'.ok) (h2 : x'.wins.length ≤ m + 1) (h3 : x'.slts.length ≤ m + 1) (hm : m ≤ 1000) {f : Int} (hf : I64 f) : Tab.few ⟨f, t.tens.set k x'⟩ (m + 1) := by
  have hnt := ht.nt
  have hin : ∀ y ∈ t.tens.set k x', y ∈ t.tens ∨ y = x' := fun y hy => List.mem_or_eq_of_mem_set hy
  refine ⟨⟨hf, fun y hy => ?_, by rw [List.length_set]; omega⟩, by rw [List.length_set]; omega, fun y hy => ?_, fun y hy => ?_⟩
  · rcases hin y hy with h | rfl
    · exact ht.ok.tens y h
    · exact h1
  · rcases hin y hy with h | rfl
    · have := ht.nw y h; omega
    · exact h2
  · rcases hin y hy with h | rfl
    · have := ht.ns y h; omega
    · exact h3
theorem oddF_few {t : Tab} {m : Nat} (hm : m ≤ 1000) (ht : t.few m) {what at_ n : Int} (hn : I64 n) : (oddF t what at_ n).few (m + 1) := by
  unfold oddF
  split
  · exact ⟨ht.ok, by have := ht.nt; omega, fun x hx => by have := ht.nw x hx; omega, fun x hx => by have := ht.ns x hx; omega⟩
  · rename_i x hx
    have hxm := List.mem_of_getElem? hx
    have h := oddX_ok (ht.ok.tens x hxm) hm (ht.nw x hxm) (ht.ns x hxm) (withinI what 0 13) (withinI n 0 5).toNat (withinI n 0 2).toNat (at_ := at_) hn
    have hF : I64 (if withinI what 0 13 = 0 then n else t.frame) := by split <;> first | exact hn | exact ht.ok.frame
    have h2 := few_set (k := (withinI at_ 0 ((t.tens.length : Int) - 1)).toNat) ht h.1 h.2.1 h.2.2 hm hF
    unfold oddG
    by_cases h11 : withinI what 0 13 = 11
    · rw [if_pos h11 (t := [x])]
      refine few_app h2 (ht.ok.tens x hxm) ?_ ?_ (by simp only [List.length_set]; exact ht.nt) hm
      · have := ht.nw x hxm; omega
      · have := ht.ns x hxm; omega
    · rw [if_neg h11 (t := [x]), List.append_nil]; exact h2
theorem odd_nil {t : Tab} {m : Nat} (hm : m ≤ 1000) (ht : t.few m) {what at_ n : Int} (hwI : I64 what) (haI : I64 at_) (hnI : I64 n) (h0 : t.tens = []) {s : St} : ACalls Try.prog 11 [t.pv, .int .i64 what, .int .i64 at_, .int .i64 n] s (fun r s' => r = (oddF t what at_ n).pv ∧ s' = s) := by
  refine go Try.func11 (k := fun hwf H => ?_)
  have H := aj h0 H
  refine rs (k := rg [1, 2, 3, 4, 8] (k := rs (k := rr (k := rO (k := ro (pre := [_, _]) (k := ?_))))))
  refine RunO.append au au au Try.td22 (by rw [Try.zp47]; rfl) (isEls_none _ _) (isEls_none _ _) (by rw [Try.by47]; decide) (by simp) (v := .sl .clip []) (by unfold aAppend; rw [if_pos rfl]) ?_
  refine rh [1, 2, 3, 4, 8] (k := rs (k := rs (k := rg [1, 2, 3, 4, 8, 21] (k := rc (ht := fun hc0 => ?_) (hf := fun hc0 => ?_)))))
  · refine rs (k := rg [8] (k := rR (k := ?_)))
    refine Ret.pureF (r' := Tab.pv ⟨t.frame, []⟩) 3 (by simp only [Try.f11, go_sem, ↓reduceIte] <;> rfl) (by simp [PV.frz, PV.weak, Tab.pv]) (blw_tab _ _) hwf (fun i hi => ?_) ⟨by simp only [oddF, h0, List.getElem?_nil]; rw [← h0], rfl⟩
    have h0 : ∀ n, (i = s.nxt + n) = False := fun n => eq_false (by omega)
    have h1 : (i = s.nxt) = False := eq_false (by omega)
    simp only [go_sem, Nat.add_assoc, Nat.reduceAdd, ↓reduceIte, h0, h1]
  · cases hc0
set_option maxRecDepth 100000 in
theorem odd_ws {t : Tab} {m : Nat} (hm : m ≤ 1000) (ht : t.few m) {what at_ n : Int} (hwI : I64 what) (haI : I64 at_) (hnI : I64 n) {k : Nat} (hkw : withinI at_ 0 (t.tens.length - 1) = k) (hkl : k < t.tens.length) {x : Ten} (hxe : t.tens[k] = x) (hwe : x.wins ≠ []) (hse : x.slts ≠ []) {s : St} : ACalls Try.prog 11 [t.pv, .int .i64 what, .int .i64 at_, .int .i64 n] s (fun r s' => r = (oddF t what at_ n).pv ∧ s' = s) := by
  refine go Try.func11 (k := fun hwf H => ?_)
  have hnt := ht.nt
  have hxm : x ∈ t.tens := by rw [← hxe]; exact List.getElem_mem _
  have hnw := ht.nw x hxm
  have hns := ht.ns x hxm
  have hte : t.tens ≠ [] := fun h => by rw [h] at hkl; simp at hkl
  have hxx : (t.tens.map Ten.pv)[k]? = some (.agg [.int .i64 (x).unit, .int .u32 (x).fns, .int .i64 (x).queue, .sl .unk ((x).wins.map Win.pv), .sl .unk ((x).slts.map Slt.pv)]) := by rw [map_get hkl, hxe]; rfl
  have hgs : ∀ X, ((t.tens.map Ten.pv).set k X)[k]? = some X := fun X => by rw [List.getElem?_set]; simp [hkl]
  have hwl : IntKind.i64.wrap ((t.tens.length : Int) - 1) = (t.tens.length : Int) - 1 := wrap_i64 (by omega)
  have htl0 : ((t.tens.length : Int) = 0) = False := eq_false (by omega)
  have hk2 : ((k : Int) < (t.tens.length : Int)) = True := eq_true (by omega)
  have H := aj hgs (aj hwl (aj hkw (aj hk2 (aj htl0 H))))
  refine rs (k := rg [1, 2, 3, 4, 8] (k := rs (k := rr (k := rO (k := ro (pre := [_, _]) (k := ?_))))))
  refine RunO.appendFirst au au au Try.td22 (by rw [Try.zp47]; rfl) (isEls_none _ _) (isEls_map (f := Ten.pv) (fun a => ⟨rfl, by rw [Try.cz47]; rfl⟩) _) (by rw [Try.by47]; decide) (by rw [Try.by47]; simp; omega) (by simp only [aAppendFirst, List.map_eq_nil_iff, ne_eq, hte, not_false_eq_true, if_true, List.length_nil, Nat.zero_add, List.length_map, List.nil_append, go_sem]; rfl) ?_
  refine rh [1, 2, 3, 4, 8] (k := rs (k := rs (k := rg [1, 2, 3, 4, 8, 21] (k := rc (ht := fun hc0 => ?_) (hf := fun hc0 => ?_)))))
  · cases hc0
  · have hc := hc0
    refine rk (k := rs (k := rr (k := ro (pre := [_, _, _, _, _]) (k := rC (h := within_ (lo := 0) (hi := (t.tens.length : Int) - 1) (by decide) (by omega) (by omega)) (k := rh [1, 2, 3, 4, 8, 9] (k := rs (k := rg [1, 2, 3, 4, 8, 10] (k := rs (k := ?_)))))))))
    have H := aj hxx H
    refine rr (k := ro (pre := [_]) (k := rO (k := ro (pre := [_, _, _, _]) (k := ?_))))
    refine RunO.appendFirst au au au Try.td44 (by rw [Try.zp58]; rfl) (isEls_none _ _) (isEls_map (f := Win.pv) (fun a => ⟨rfl, by rw [Try.cz58]; rfl⟩) _) (by rw [Try.by58]; decide) (by rw [Try.by58]; simp; omega) (by simp only [aAppendFirst, List.map_eq_nil_iff, ne_eq, hwe, not_false_eq_true, if_true, List.length_nil, Nat.zero_add, List.length_map, List.nil_append, go_sem]; rfl) ?_
    refine rh [1, 2, 3, 4, 8, 10] (k := rs (k := rr (k := ro (pre := [_]) (k := rO (k := ro (pre := [_, _, _, _]) (k := ?_))))))
    refine RunO.appendFirst au au au Try.td45 (by rw [Try.zp49]; rfl) (isEls_none _ _) (isEls_map (f := Slt.pv) (fun a => ⟨rfl, by rw [Try.cz49]; rfl⟩) _) (by rw [Try.by49]; decide) (by rw [Try.by49]; simp; omega) (by simp only [aAppendFirst, List.map_eq_nil_iff, ne_eq, hse, not_false_eq_true, if_true, List.length_nil, Nat.zero_add, List.length_map, List.nil_append, go_sem]; rfl) ?_
    refine rh [1, 2, 3, 4, 8, 10] (k := rs (k := ?_))
    refine Run.abs (fun s1 => Fr s s1 ∧ s1.nxt = s.nxt + 1 + 1 + 1 + 1 + 1 ∧ s1.blk s.nxt = some (.row 24 [.agg [.int .i64 t.frame, .own (s.nxt + 1 + 1) 0 t.tens.length]]) ∧ s1.blk (s.nxt + 1) = some (.row 24 [.agg [.int .i64 0, .sl .nil []]]) ∧ s1.blk (s.nxt + 1 + 1) = some (.row 47 ((t.tens.map Ten.pv).set k (.agg [.int .i64 x.unit, .int .u32 x.fns, .int .i64 x.queue, .own (s.nxt + 1 + 1 + 1) 0 x.wins.length, .own (s.nxt + 1 + 1 + 1 + 1) 0 x.slts.length]))) ∧ s1.blk (s.nxt + 1 + 1 + 1) = some (.row 58 (x.wins.map Win.pv)) ∧ s1.blk (s.nxt + 1 + 1 + 1 + 1) = some (.row 49 (x.slts.map Slt.pv))) ⟨by repeat (first | exact Fr.refl hwf | refine Fr.new ?_ _ | refine Fr.set ?_ (by omega) (by simp only [nxt_new, nxt_set]; omega) _), by simp only [go_sem], by simp only [go_sem, ↓reduceIte, Nat.reduceEqDiff, Nat.reduceAdd], by simp only [go_sem, ↓reduceIte, Nat.reduceEqDiff, Nat.reduceAdd], by simp only [go_sem, ↓reduceIte, Nat.reduceEqDiff, Nat.reduceAdd], by simp only [go_sem, ↓reduceIte, Nat.reduceEqDiff, Nat.reduceAdd], by simp only [go_sem, ↓reduceIte, Nat.reduceEqDiff, Nat.reduceAdd]⟩ ?_
    rintro s1 ⟨F1, hn1, b4, b8, bA, bB, bC⟩
    have hwi0 := withinI_bound (n := n) (lo := 0) (hi := 5) (by decide)
    have hsi0 := withinI_bound (n := n) (lo := 0) (hi := 2) (by decide)
    obtain ⟨wi, hwi⟩ : ∃ y : Nat, withinI n 0 5 = y := ⟨_, (Int.toNat_of_nonneg hwi0.1).symm⟩
    obtain ⟨si, hsi⟩ : ∃ y : Nat, withinI n 0 2 = y := ⟨_, (Int.toNat_of_nonneg hsi0.1).symm⟩
    have z0 : (s.nxt = s1.nxt) = False := eq_false (by omega)
    have z1 : (s.nxt + 1 = s1.nxt) = False := eq_false (by omega)
    have z2 : (s.nxt + 1 + 1 = s1.nxt) = False := eq_false (by omega)
    have z3 : (s.nxt + 1 + 1 + 1 = s1.nxt) = False := eq_false (by omega)
    have z4 : (s.nxt + 1 + 1 + 1 + 1 = s1.nxt) = False := eq_false (by omega)
    have y0 : (s1.nxt = s.nxt) = False := eq_false (by omega)
    have y1 : (s1.nxt = s.nxt + 1) = False := eq_false (by omega)
    have y2 : (s1.nxt = s.nxt + 1 + 1) = False := eq_false (by omega)
    have y3 : (s1.nxt = s.nxt + 1 + 1 + 1) = False := eq_false (by omega)
    have y4 : (s1.nxt = s.nxt + 1 + 1 + 1 + 1) = False := eq_false (by omega)
    have H := aj b4 (aj b8 (aj bA (aj bB (aj bC (aj hwi (aj hsi (aj z0 (aj z1 (aj z2 (aj z3 (aj z4 (aj y0 (aj y1 (aj y2 (aj y3 (aj y4 H))))))))))))))))
    refine rr (k := ro (pre := [_]) (k := rC (h := within_ (lo := 0) (hi := 5) (by decide) (by decide) (by decide)) (k := ro (pre := [_]) (k := rC (h := within_ (lo := 0) (hi := 2) (by decide) (by decide) (by decide)) (k := rh [1, 2, 3, 4, 8, 10, 11, 12] (k := rs (k := rs (k := rr (k := ro (pre := [_]) (k := rC (h := within_ (lo := 0) (hi := 13) (by decide) (by decide) (by decide)) (k := ?_)))))))))))
    refine rl [2, 3, 4, 8, 10, 11, 12, 56] (k := ?_)
    refine Run.join (fun e s' => e = [(4, .ptr s.nxt 0 0), (8, .ptr (s.nxt + 1) 0 0)] ∧ s'.blk (s.nxt + 1) = some (.row 24 [.agg [.int .i64 0, .sl .nil []]]) ∧ OddR s s' (oddF t what at_ n)) ?_ ?_
    · rintro e s2 ⟨rfl, r0, hO⟩
      obtain ⟨A', els, r1, r2, r3, r4, r5⟩ := hO.row
      have H := aj r0 (aj r1 H)
      refine rs (k := rg [8] (k := rR (k := ?_)))
      exact Ret.pureF (r' := (oddF t what at_ n).pv) 7 (by simp only [Try.f11, go_sem, ↓reduceIte, r0, r1] <;> rfl) ((hO.set _).frz (by simp only [go_sem, ↓reduceIte]; exact r1)) (blw_tab _ _) hwf (hO.set _).fr.blk ⟨rfl, rfl⟩
    intro hJb0
    refine rb (k := rs (k := ?_))
    obtain ⟨wv, hwv⟩ : ∃ y, withinI what 0 13 = y := ⟨_, rfl⟩
    have hwb := withinI_bound (n := what) (lo := 0) (hi := 13) (by decide)
    have hodd := oddF_eq hkw hkl hxe hwv hwi hsi (at_ := at_)
    rw [hwv]
    rw [hwv] at hwb
    refine rg [2, 3, 4, 8, 10, 11, 12, 56, 73] (k := rc (ht := fun hc1 => ?_) (hf := fun hc1 => ?_))
    · have hc := hc1
      refine rg [4, 8] (k := rB (k := ?_))
      have hw9 : wv = 0 := by have h := of_decide_eq_true hc1; omega
      subst hw9
      refine rp [4, 8] (k := ?_)
      refine hJb0 _ _ ⟨rfl, au, ?_⟩
      rw [hodd, show oddG t k x 0 wi si at_ n = ⟨n, t.tens.set k (⟨x.unit, x.fns, x.queue, x.wins, x.slts⟩ : Ten)⟩ by simp only [oddG, oddX, Int.reduceEq, reduceCtorEq, ↓reduceIte, List.append_nil]]
      exact odd_done (by repeat (first | exact F1 | refine Fr.new ?_ _ | refine Fr.set ?_ (by omega) (by first | omega | (simp only [nxt_new, nxt_set]; omega)) _)) (by first | omega | (simp only [go_sem]; omega)) au (by omega) au ⟨.own (s.nxt + 1 + 1 + 1) 0 x.wins.length, .own (s.nxt + 1 + 1 + 1 + 1) 0 x.slts.length, rfl, .inr ⟨(s.nxt + 1 + 1 + 1), _, by simp, by omega, (by first | (exact au) | (simp only [List.map_set, List.map_append, List.map_cons, List.map_nil]; exact au))⟩, .inr ⟨(s.nxt + 1 + 1 + 1 + 1), _, by simp, by omega, (by first | (exact au) | (simp only [List.map_set, List.map_append, List.map_cons, List.map_nil]; exact au))⟩⟩
    · have hc := hc1
      refine rs (k := rg [2, 3, 4, 8, 10, 11, 12, 56, 77] (k := rc (ht := fun hc2 => ?_) (hf := fun hc2 => ?_)))
      · have hc := hc2
        refine rg [4, 8] (k := rB (k := ?_))
        have hw9 : wv = 1 := by have h := of_decide_eq_true hc2; omega
        subst hw9
        refine rp [4, 8] (k := ?_)
        refine hJb0 _ _ ⟨rfl, au, ?_⟩
        rw [hodd, show oddG t k x 1 wi si at_ n = ⟨t.frame, t.tens.set k (⟨n, x.fns, x.queue, x.wins, x.slts⟩ : Ten)⟩ by simp only [oddG, oddX, Int.reduceEq, reduceCtorEq, ↓reduceIte, List.append_nil]]
        exact odd_done (by repeat (first | exact F1 | refine Fr.new ?_ _ | refine Fr.set ?_ (by omega) (by first | omega | (simp only [nxt_new, nxt_set]; omega)) _)) (by first | omega | (simp only [go_sem]; omega)) au (by omega) au ⟨.own (s.nxt + 1 + 1 + 1) 0 x.wins.length, .own (s.nxt + 1 + 1 + 1 + 1) 0 x.slts.length, rfl, .inr ⟨(s.nxt + 1 + 1 + 1), _, by simp, by omega, (by first | (exact au) | (simp only [List.map_set, List.map_append, List.map_cons, List.map_nil]; exact au))⟩, .inr ⟨(s.nxt + 1 + 1 + 1 + 1), _, by simp, by omega, (by first | (exact au) | (simp only [List.map_set, List.map_append, List.map_cons, List.map_nil]; exact au))⟩⟩
      · have hc := hc2
        refine rs (k := rg [2, 3, 4, 8, 10, 11, 12, 56, 83] (k := rc (ht := fun hc3 => ?_) (hf := fun hc3 => ?_)))
        · have hc := hc3
          refine rg [4, 8] (k := rB (k := ?_))
          have hw9 : wv = 2 := by have h := of_decide_eq_true hc3; omega
          subst hw9
          refine rp [4, 8] (k := ?_)
          refine hJb0 _ _ ⟨rfl, au, ?_⟩
          rw [hodd, show oddG t k x 2 wi si at_ n = ⟨t.frame, t.tens.set k (⟨x.unit, x.fns, n, x.wins, x.slts⟩ : Ten)⟩ by simp only [oddG, oddX, Int.reduceEq, reduceCtorEq, ↓reduceIte, List.append_nil]]
          exact odd_done (by repeat (first | exact F1 | refine Fr.new ?_ _ | refine Fr.set ?_ (by omega) (by first | omega | (simp only [nxt_new, nxt_set]; omega)) _)) (by first | omega | (simp only [go_sem]; omega)) au (by omega) au ⟨.own (s.nxt + 1 + 1 + 1) 0 x.wins.length, .own (s.nxt + 1 + 1 + 1 + 1) 0 x.slts.length, rfl, .inr ⟨(s.nxt + 1 + 1 + 1), _, by simp, by omega, (by first | (exact au) | (simp only [List.map_set, List.map_append, List.map_cons, List.map_nil]; exact au))⟩, .inr ⟨(s.nxt + 1 + 1 + 1 + 1), _, by simp, by omega, (by first | (exact au) | (simp only [List.map_set, List.map_append, List.map_cons, List.map_nil]; exact au))⟩⟩
        · have hc := hc3
          refine rs (k := rg [2, 3, 4, 8, 10, 11, 12, 56, 89] (k := rc (ht := fun hc4 => ?_) (hf := fun hc4 => ?_)))
          · have hc := hc4
            refine rg [4, 8] (k := rB (k := ?_))
            have hw9 : wv = 3 := by have h := of_decide_eq_true hc4; omega
            subst hw9
            refine rp [4, 8] (k := ?_)
            refine hJb0 _ _ ⟨rfl, au, ?_⟩
            rw [hodd, show oddG t k x 3 wi si at_ n = ⟨t.frame, t.tens.set k (⟨x.unit, IntKind.u32.wrap n, x.queue, x.wins, x.slts⟩ : Ten)⟩ by simp only [oddG, oddX, Int.reduceEq, reduceCtorEq, ↓reduceIte, List.append_nil]]
            exact odd_done (by repeat (first | exact F1 | refine Fr.new ?_ _ | refine Fr.set ?_ (by omega) (by first | omega | (simp only [nxt_new, nxt_set]; omega)) _)) (by first | omega | (simp only [go_sem]; omega)) au (by omega) au ⟨.own (s.nxt + 1 + 1 + 1) 0 x.wins.length, .own (s.nxt + 1 + 1 + 1 + 1) 0 x.slts.length, rfl, .inr ⟨(s.nxt + 1 + 1 + 1), _, by simp, by omega, (by first | (exact au) | (simp only [List.map_set, List.map_append, List.map_cons, List.map_nil]; exact au))⟩, .inr ⟨(s.nxt + 1 + 1 + 1 + 1), _, by simp, by omega, (by first | (exact au) | (simp only [List.map_set, List.map_append, List.map_cons, List.map_nil]; exact au))⟩⟩
          · have hc := hc4
            refine rs (k := rg [2, 3, 4, 8, 10, 11, 12, 56, 96] (k := rc (ht := fun hc5 => ?_) (hf := fun hc5 => ?_)))
            · have hc := hc5
              refine rr (k := ro (pre := [_, _, _, _, _, _, _]) (k := rO (k := ?_)))
              refine RunO.appendOwn au au au Try.td45 (by rw [Try.zp49]; rfl) (isEls_map (f := Slt.pv) (fun a => ⟨rfl, by rw [Try.cz49]; rfl⟩) [⟨n, 72⟩]) (by rw [Try.by49]; decide) (by rw [Try.by49]; simp; omega) (v := .own s1.nxt 0 (x.slts.length + 1)) (s' := (s1.set (s.nxt + 1 + 1 + 1 + 1) none).new (.row 49 (x.slts.map Slt.pv ++ [.agg [.int .i64 n, .int .i64 72]]))) (by unfold aAppendOwn; rw [bC]; simp only [ne_eq, List.cons_ne_nil, not_false_eq_true, List.length_map, Nat.le_refl, and_self, if_true, List.length_cons, List.length_nil, Nat.zero_add]; rw [List.take_of_length_le (by rw [List.length_map]; exact Nat.le_refl _)]; rfl) ?_
              refine rh [4, 8] (k := rB (k := ?_))
              have hw9 : wv = 4 := by have h := of_decide_eq_true hc5; omega
              subst hw9
              refine rp [4, 8] (k := ?_)
              refine hJb0 _ _ ⟨rfl, au, ?_⟩
              rw [hodd, show oddG t k x 4 wi si at_ n = ⟨t.frame, t.tens.set k (⟨x.unit, x.fns, x.queue, x.wins, x.slts ++ [⟨n, 72⟩]⟩ : Ten)⟩ by simp only [oddG, oddX, Int.reduceEq, reduceCtorEq, ↓reduceIte, List.append_nil]]
              exact odd_done (by repeat (first | exact F1 | refine Fr.new ?_ _ | refine Fr.set ?_ (by omega) (by first | omega | (simp only [nxt_new, nxt_set]; omega)) _)) (by first | omega | (simp only [go_sem]; omega)) au (by omega) au ⟨.own (s.nxt + 1 + 1 + 1) 0 x.wins.length, .own s1.nxt 0 (x.slts.length + 1), rfl, .inr ⟨(s.nxt + 1 + 1 + 1), _, by simp, by omega, (by first | (exact au) | (simp only [List.map_set, List.map_append, List.map_cons, List.map_nil]; exact au))⟩, .inr ⟨s1.nxt, _, by simp, by omega, (by first | (exact au) | (simp only [List.map_set, List.map_append, List.map_cons, List.map_nil]; exact au))⟩⟩
            · have hc := hc5
              refine rs (k := rg [2, 3, 4, 8, 10, 11, 12, 56, 109] (k := rc (ht := fun hc6 => ?_) (hf := fun hc6 => ?_)))
              · have hc := hc6
                have hb0 := ibits_and_le n 3 (by decide)
                have hb1 := ibits_and_le at_ 1023 (by decide)
                have hb2 := ibits_and_le n 511 (by decide)
                have hb3 := ibits_and_le at_ 31 (by decide)
                obtain ⟨g0, hg0⟩ : ∃ y, ibits .and .i64 n 3 = y := ⟨_, rfl⟩
                obtain ⟨g1, hg1⟩ : ∃ y, ibits .and .i64 at_ 1023 = y := ⟨_, rfl⟩
                obtain ⟨g2, hg2⟩ : ∃ y, ibits .and .i64 n 511 = y := ⟨_, rfl⟩
                obtain ⟨g4, hg4⟩ : ∃ y, ibits .and .i64 at_ 31 = y := ⟨_, rfl⟩
                have hb0 : 0 ≤ g0 ∧ g0 ≤ 3 := hg0 ▸ hb0
                have hb1 : 0 ≤ g1 ∧ g1 ≤ 1023 := hg1 ▸ hb1
                have hb2 : 0 ≤ g2 ∧ g2 ≤ 511 := hg2 ▸ hb2
                have hb3 : 0 ≤ g4 ∧ g4 ≤ 31 := hg4 ▸ hb3
                have hg3 : IntKind.i64.wrap (1 + g4) = 1 + g4 := wrap_i64 (by omega)
                have H := aj hg0 (aj hg1 (aj hg2 (aj hg4 (aj hg3 H))))
                refine rr (k := ro (pre := [_, _, _, _, _, _, _, _, _, _, _, _, _, _, _]) (k := rO (k := ?_)))
                refine RunO.appendOwn au au au Try.td44 (by rw [Try.zp58]; rfl) (isEls_map (f := Win.pv) (fun a => ⟨rfl, by rw [Try.cz58]; rfl⟩) [⟨g0, g1, g2, 1 + g4⟩]) (by rw [Try.by58]; decide) (by rw [Try.by58]; simp; omega) (v := .own s1.nxt 0 (x.wins.length + 1)) (s' := (s1.set (s.nxt + 1 + 1 + 1) none).new (.row 58 (x.wins.map Win.pv ++ [.agg [.int .i64 g0, .int .i64 g1, .int .i64 g2, .int .i64 (1 + g4)]]))) (by unfold aAppendOwn; rw [bB]; simp only [ne_eq, List.cons_ne_nil, not_false_eq_true, List.length_map, Nat.le_refl, and_self, if_true, List.length_cons, List.length_nil, Nat.zero_add]; rw [List.take_of_length_le (by rw [List.length_map]; exact Nat.le_refl _)]; rfl) ?_
                refine rh [4, 8] (k := rB (k := ?_))
                have hw9 : wv = 5 := by have h := of_decide_eq_true hc6; omega
                subst hw9
                refine rp [4, 8] (k := ?_)
                refine hJb0 _ _ ⟨rfl, au, ?_⟩
                rw [hodd, show oddG t k x 5 wi si at_ n = ⟨t.frame, t.tens.set k (⟨x.unit, x.fns, x.queue, x.wins ++ [⟨g0, g1, g2, 1 + g4⟩], x.slts⟩ : Ten)⟩ by simp only [oddG, oddX, Int.reduceEq, reduceCtorEq, ↓reduceIte, List.append_nil, hg0, hg1, hg2, hg4]]
                exact odd_done (by repeat (first | exact F1 | refine Fr.new ?_ _ | refine Fr.set ?_ (by omega) (by first | omega | (simp only [nxt_new, nxt_set]; omega)) _)) (by first | omega | (simp only [go_sem]; omega)) au (by omega) au ⟨.own s1.nxt 0 (x.wins.length + 1), .own (s.nxt + 1 + 1 + 1 + 1) 0 x.slts.length, rfl, .inr ⟨s1.nxt, _, by simp, by omega, (by first | (exact au) | (simp only [List.map_set, List.map_append, List.map_cons, List.map_nil]; exact au))⟩, .inr ⟨(s.nxt + 1 + 1 + 1 + 1), _, by simp, by omega, (by first | (exact au) | (simp only [List.map_set, List.map_append, List.map_cons, List.map_nil]; exact au))⟩⟩
              · have hc := hc6
                refine rs (k := rg [3, 4, 8, 10, 11, 12, 56, 130] (k := rc (ht := fun hc7 => ?_) (hf := fun hc7 => ?_)))
                · have hc := hc7
                  refine rs (k := rg [3, 4, 8, 10, 11, 138] (k := rc (ht := fun hc8 => ?_) (hf := fun hc8 => ?_)))
                  · have hc := hc8
                    have hwl2 : wi < x.wins.length := by have := of_decide_eq_true hc; omega
                    have hwi1 : ((wi : Int) < (x.wins.length : Int)) = True := eq_true (by omega)
                    obtain ⟨w, hwe⟩ : ∃ z_, x.wins[wi]'hwl2 = z_ := ⟨_, rfl⟩
                    have hxw : (x.wins.map Win.pv)[wi]? = some (.agg [.int .i64 (w).space, .int .i64 (w).virt, .int .i64 (w).phys, .int .i64 (w).cnt]) := by rw [map_get hwl2, hwe]; rfl
                    have H := aj hwi1 (aj hxw H)
                    refine rg [4, 8] (k := rB (k := ?_))
                    have hw9 : wv = 6 := by have h := of_decide_eq_true hc7; omega
                    subst hw9
                    refine rp [4, 8] (k := ?_)
                    refine hJb0 _ _ ⟨rfl, au, ?_⟩
                    rw [hodd, show oddG t k x 6 wi si at_ n = ⟨t.frame, t.tens.set k (⟨x.unit, x.fns, x.queue, x.wins.set wi ⟨w.space, w.virt, n, w.cnt⟩, x.slts⟩ : Ten)⟩ by simp only [oddG, oddX, Int.reduceEq, reduceCtorEq, ↓reduceIte, List.append_nil, modF_lt hwl2 hwe]]
                    exact odd_done (by repeat (first | exact F1 | refine Fr.new ?_ _ | refine Fr.set ?_ (by omega) (by first | omega | (simp only [nxt_new, nxt_set]; omega)) _)) (by first | omega | (simp only [go_sem]; omega)) au (by omega) au ⟨.own (s.nxt + 1 + 1 + 1) 0 x.wins.length, .own (s.nxt + 1 + 1 + 1 + 1) 0 x.slts.length, rfl, .inr ⟨(s.nxt + 1 + 1 + 1), _, by simp, by omega, (by first | (exact au) | (simp only [List.map_set, List.map_append, List.map_cons, List.map_nil]; exact au))⟩, .inr ⟨(s.nxt + 1 + 1 + 1 + 1), _, by simp, by omega, (by first | (exact au) | (simp only [List.map_set, List.map_append, List.map_cons, List.map_nil]; exact au))⟩⟩
                  · have hc := hc8
                    refine rk (k := rB (k := ?_))
                    have hw9 : wv = 6 := by have h := of_decide_eq_true hc7; omega
                    subst hw9
                    refine rp [4, 8] (k := ?_)
                    refine hJb0 _ _ ⟨rfl, au, ?_⟩
                    rw [hodd, show oddG t k x 6 wi si at_ n = ⟨t.frame, t.tens.set k (⟨x.unit, x.fns, x.queue, x.wins, x.slts⟩ : Ten)⟩ by simp only [oddG, oddX, Int.reduceEq, reduceCtorEq, ↓reduceIte, List.append_nil, modF_ge (show x.wins.length ≤ wi by have := of_decide_eq_false hc8; first | omega | simp_all)]]
                    exact odd_done (by repeat (first | exact F1 | refine Fr.new ?_ _ | refine Fr.set ?_ (by omega) (by first | omega | (simp only [nxt_new, nxt_set]; omega)) _)) (by first | omega | (simp only [go_sem]; omega)) au (by omega) au ⟨.own (s.nxt + 1 + 1 + 1) 0 x.wins.length, .own (s.nxt + 1 + 1 + 1 + 1) 0 x.slts.length, rfl, .inr ⟨(s.nxt + 1 + 1 + 1), _, by simp, by omega, (by first | (exact au) | (simp only [List.map_set, List.map_append, List.map_cons, List.map_nil]; exact au))⟩, .inr ⟨(s.nxt + 1 + 1 + 1 + 1), _, by simp, by omega, (by first | (exact au) | (simp only [List.map_set, List.map_append, List.map_cons, List.map_nil]; exact au))⟩⟩
                · have hc := hc7
                  refine rs (k := rg [3, 4, 8, 10, 11, 12, 56, 147] (k := rc (ht := fun hc9 => ?_) (hf := fun hc9 => ?_)))
                  · have hc := hc9
                    refine rs (k := rg [3, 4, 8, 10, 11, 155] (k := rc (ht := fun hc10 => ?_) (hf := fun hc10 => ?_)))
                    · have hc := hc10
                      have hwl2 : wi < x.wins.length := by have := of_decide_eq_true hc; omega
                      have hwi1 : ((wi : Int) < (x.wins.length : Int)) = True := eq_true (by omega)
                      obtain ⟨w, hwe⟩ : ∃ z_, x.wins[wi]'hwl2 = z_ := ⟨_, rfl⟩
                      have hxw : (x.wins.map Win.pv)[wi]? = some (.agg [.int .i64 (w).space, .int .i64 (w).virt, .int .i64 (w).phys, .int .i64 (w).cnt]) := by rw [map_get hwl2, hwe]; rfl
                      have H := aj hwi1 (aj hxw H)
                      refine rg [4, 8] (k := rB (k := ?_))
                      have hw9 : wv = 7 := by have h := of_decide_eq_true hc9; omega
                      subst hw9
                      refine rp [4, 8] (k := ?_)
                      refine hJb0 _ _ ⟨rfl, au, ?_⟩
                      rw [hodd, show oddG t k x 7 wi si at_ n = ⟨t.frame, t.tens.set k (⟨x.unit, x.fns, x.queue, x.wins.set wi ⟨w.space, n, w.phys, w.cnt⟩, x.slts⟩ : Ten)⟩ by simp only [oddG, oddX, Int.reduceEq, reduceCtorEq, ↓reduceIte, List.append_nil, modF_lt hwl2 hwe]]
                      exact odd_done (by repeat (first | exact F1 | refine Fr.new ?_ _ | refine Fr.set ?_ (by omega) (by first | omega | (simp only [nxt_new, nxt_set]; omega)) _)) (by first | omega | (simp only [go_sem]; omega)) au (by omega) au ⟨.own (s.nxt + 1 + 1 + 1) 0 x.wins.length, .own (s.nxt + 1 + 1 + 1 + 1) 0 x.slts.length, rfl, .inr ⟨(s.nxt + 1 + 1 + 1), _, by simp, by omega, (by first | (exact au) | (simp only [List.map_set, List.map_append, List.map_cons, List.map_nil]; exact au))⟩, .inr ⟨(s.nxt + 1 + 1 + 1 + 1), _, by simp, by omega, (by first | (exact au) | (simp only [List.map_set, List.map_append, List.map_cons, List.map_nil]; exact au))⟩⟩
                    · have hc := hc10
                      refine rk (k := rB (k := ?_))
                      have hw9 : wv = 7 := by have h := of_decide_eq_true hc9; omega
                      subst hw9
                      refine rp [4, 8] (k := ?_)
                      refine hJb0 _ _ ⟨rfl, au, ?_⟩
                      rw [hodd, show oddG t k x 7 wi si at_ n = ⟨t.frame, t.tens.set k (⟨x.unit, x.fns, x.queue, x.wins, x.slts⟩ : Ten)⟩ by simp only [oddG, oddX, Int.reduceEq, reduceCtorEq, ↓reduceIte, List.append_nil, modF_ge (show x.wins.length ≤ wi by have := of_decide_eq_false hc10; first | omega | simp_all)]]
                      exact odd_done (by repeat (first | exact F1 | refine Fr.new ?_ _ | refine Fr.set ?_ (by omega) (by first | omega | (simp only [nxt_new, nxt_set]; omega)) _)) (by first | omega | (simp only [go_sem]; omega)) au (by omega) au ⟨.own (s.nxt + 1 + 1 + 1) 0 x.wins.length, .own (s.nxt + 1 + 1 + 1 + 1) 0 x.slts.length, rfl, .inr ⟨(s.nxt + 1 + 1 + 1), _, by simp, by omega, (by first | (exact au) | (simp only [List.map_set, List.map_append, List.map_cons, List.map_nil]; exact au))⟩, .inr ⟨(s.nxt + 1 + 1 + 1 + 1), _, by simp, by omega, (by first | (exact au) | (simp only [List.map_set, List.map_append, List.map_cons, List.map_nil]; exact au))⟩⟩
                  · have hc := hc9
                    refine rs (k := rg [3, 4, 8, 10, 11, 12, 56, 164] (k := rc (ht := fun hc11 => ?_) (hf := fun hc11 => ?_)))
                    · have hc := hc11
                      refine rs (k := rg [3, 4, 8, 10, 11, 172] (k := rc (ht := fun hc12 => ?_) (hf := fun hc12 => ?_)))
                      · have hc := hc12
                        have hwl2 : wi < x.wins.length := by have := of_decide_eq_true hc; omega
                        have hwi1 : ((wi : Int) < (x.wins.length : Int)) = True := eq_true (by omega)
                        obtain ⟨w, hwe⟩ : ∃ z_, x.wins[wi]'hwl2 = z_ := ⟨_, rfl⟩
                        have hxw : (x.wins.map Win.pv)[wi]? = some (.agg [.int .i64 (w).space, .int .i64 (w).virt, .int .i64 (w).phys, .int .i64 (w).cnt]) := by rw [map_get hwl2, hwe]; rfl
                        have H := aj hwi1 (aj hxw H)
                        refine rg [4, 8] (k := rB (k := ?_))
                        have hw9 : wv = 8 := by have h := of_decide_eq_true hc11; omega
                        subst hw9
                        refine rp [4, 8] (k := ?_)
                        refine hJb0 _ _ ⟨rfl, au, ?_⟩
                        rw [hodd, show oddG t k x 8 wi si at_ n = ⟨t.frame, t.tens.set k (⟨x.unit, x.fns, x.queue, x.wins.set wi ⟨w.space, w.virt, w.phys, n⟩, x.slts⟩ : Ten)⟩ by simp only [oddG, oddX, Int.reduceEq, reduceCtorEq, ↓reduceIte, List.append_nil, modF_lt hwl2 hwe]]
                        exact odd_done (by repeat (first | exact F1 | refine Fr.new ?_ _ | refine Fr.set ?_ (by omega) (by first | omega | (simp only [nxt_new, nxt_set]; omega)) _)) (by first | omega | (simp only [go_sem]; omega)) au (by omega) au ⟨.own (s.nxt + 1 + 1 + 1) 0 x.wins.length, .own (s.nxt + 1 + 1 + 1 + 1) 0 x.slts.length, rfl, .inr ⟨(s.nxt + 1 + 1 + 1), _, by simp, by omega, (by first | (exact au) | (simp only [List.map_set, List.map_append, List.map_cons, List.map_nil]; exact au))⟩, .inr ⟨(s.nxt + 1 + 1 + 1 + 1), _, by simp, by omega, (by first | (exact au) | (simp only [List.map_set, List.map_append, List.map_cons, List.map_nil]; exact au))⟩⟩
                      · have hc := hc12
                        refine rk (k := rB (k := ?_))
                        have hw9 : wv = 8 := by have h := of_decide_eq_true hc11; omega
                        subst hw9
                        refine rp [4, 8] (k := ?_)
                        refine hJb0 _ _ ⟨rfl, au, ?_⟩
                        rw [hodd, show oddG t k x 8 wi si at_ n = ⟨t.frame, t.tens.set k (⟨x.unit, x.fns, x.queue, x.wins, x.slts⟩ : Ten)⟩ by simp only [oddG, oddX, Int.reduceEq, reduceCtorEq, ↓reduceIte, List.append_nil, modF_ge (show x.wins.length ≤ wi by have := of_decide_eq_false hc12; first | omega | simp_all)]]
                        exact odd_done (by repeat (first | exact F1 | refine Fr.new ?_ _ | refine Fr.set ?_ (by omega) (by first | omega | (simp only [nxt_new, nxt_set]; omega)) _)) (by first | omega | (simp only [go_sem]; omega)) au (by omega) au ⟨.own (s.nxt + 1 + 1 + 1) 0 x.wins.length, .own (s.nxt + 1 + 1 + 1 + 1) 0 x.slts.length, rfl, .inr ⟨(s.nxt + 1 + 1 + 1), _, by simp, by omega, (by first | (exact au) | (simp only [List.map_set, List.map_append, List.map_cons, List.map_nil]; exact au))⟩, .inr ⟨(s.nxt + 1 + 1 + 1 + 1), _, by simp, by omega, (by first | (exact au) | (simp only [List.map_set, List.map_append, List.map_cons, List.map_nil]; exact au))⟩⟩
                    · have hc := hc11
                      refine rs (k := rg [3, 4, 8, 10, 11, 12, 56, 181] (k := rc (ht := fun hc13 => ?_) (hf := fun hc13 => ?_)))
                      · have hc := hc13
                        refine rs (k := rg [3, 4, 8, 10, 12, 189] (k := rc (ht := fun hc14 => ?_) (hf := fun hc14 => ?_)))
                        · have hc := hc14
                          have hsl2 : si < x.slts.length := by have := of_decide_eq_true hc; omega
                          have hsi1 : ((si : Int) < (x.slts.length : Int)) = True := eq_true (by omega)
                          obtain ⟨a, hae⟩ : ∃ z_, x.slts[si]'hsl2 = z_ := ⟨_, rfl⟩
                          have hxa : (x.slts.map Slt.pv)[si]? = some (.agg [.int .i64 (a).pos, .int .i64 (a).len]) := by rw [map_get hsl2, hae]; rfl
                          have H := aj hsi1 (aj hxa H)
                          refine rg [4, 8] (k := rB (k := ?_))
                          have hw9 : wv = 9 := by have h := of_decide_eq_true hc13; omega
                          subst hw9
                          refine rp [4, 8] (k := ?_)
                          refine hJb0 _ _ ⟨rfl, au, ?_⟩
                          rw [hodd, show oddG t k x 9 wi si at_ n = ⟨t.frame, t.tens.set k (⟨x.unit, x.fns, x.queue, x.wins, x.slts.set si ⟨n, a.len⟩⟩ : Ten)⟩ by simp only [oddG, oddX, Int.reduceEq, reduceCtorEq, ↓reduceIte, List.append_nil, modF_lt hsl2 hae]]
                          exact odd_done (by repeat (first | exact F1 | refine Fr.new ?_ _ | refine Fr.set ?_ (by omega) (by first | omega | (simp only [nxt_new, nxt_set]; omega)) _)) (by first | omega | (simp only [go_sem]; omega)) au (by omega) au ⟨.own (s.nxt + 1 + 1 + 1) 0 x.wins.length, .own (s.nxt + 1 + 1 + 1 + 1) 0 x.slts.length, rfl, .inr ⟨(s.nxt + 1 + 1 + 1), _, by simp, by omega, (by first | (exact au) | (simp only [List.map_set, List.map_append, List.map_cons, List.map_nil]; exact au))⟩, .inr ⟨(s.nxt + 1 + 1 + 1 + 1), _, by simp, by omega, (by first | (exact au) | (simp only [List.map_set, List.map_append, List.map_cons, List.map_nil]; exact au))⟩⟩
                        · have hc := hc14
                          refine rk (k := rB (k := ?_))
                          have hw9 : wv = 9 := by have h := of_decide_eq_true hc13; omega
                          subst hw9
                          refine rp [4, 8] (k := ?_)
                          refine hJb0 _ _ ⟨rfl, au, ?_⟩
                          rw [hodd, show oddG t k x 9 wi si at_ n = ⟨t.frame, t.tens.set k (⟨x.unit, x.fns, x.queue, x.wins, x.slts⟩ : Ten)⟩ by simp only [oddG, oddX, Int.reduceEq, reduceCtorEq, ↓reduceIte, List.append_nil, modF_ge (show x.slts.length ≤ si by have := of_decide_eq_false hc14; first | omega | simp_all)]]
                          exact odd_done (by repeat (first | exact F1 | refine Fr.new ?_ _ | refine Fr.set ?_ (by omega) (by first | omega | (simp only [nxt_new, nxt_set]; omega)) _)) (by first | omega | (simp only [go_sem]; omega)) au (by omega) au ⟨.own (s.nxt + 1 + 1 + 1) 0 x.wins.length, .own (s.nxt + 1 + 1 + 1 + 1) 0 x.slts.length, rfl, .inr ⟨(s.nxt + 1 + 1 + 1), _, by simp, by omega, (by first | (exact au) | (simp only [List.map_set, List.map_append, List.map_cons, List.map_nil]; exact au))⟩, .inr ⟨(s.nxt + 1 + 1 + 1 + 1), _, by simp, by omega, (by first | (exact au) | (simp only [List.map_set, List.map_append, List.map_cons, List.map_nil]; exact au))⟩⟩
                      · have hc := hc13
                        refine rs (k := rg [3, 4, 8, 10, 11, 12, 56, 198] (k := rc (ht := fun hc15 => ?_) (hf := fun hc15 => ?_)))
                        · have hc := hc15
                          refine rs (k := rg [3, 4, 8, 10, 12, 206] (k := rc (ht := fun hc16 => ?_) (hf := fun hc16 => ?_)))
                          · have hc := hc16
                            have hsl2 : si < x.slts.length := by have := of_decide_eq_true hc; omega
                            have hsi1 : ((si : Int) < (x.slts.length : Int)) = True := eq_true (by omega)
                            obtain ⟨a, hae⟩ : ∃ z_, x.slts[si]'hsl2 = z_ := ⟨_, rfl⟩
                            have hxa : (x.slts.map Slt.pv)[si]? = some (.agg [.int .i64 (a).pos, .int .i64 (a).len]) := by rw [map_get hsl2, hae]; rfl
                            have H := aj hsi1 (aj hxa H)
                            refine rg [4, 8] (k := rB (k := ?_))
                            have hw9 : wv = 10 := by have h := of_decide_eq_true hc15; omega
                            subst hw9
                            refine rp [4, 8] (k := ?_)
                            refine hJb0 _ _ ⟨rfl, au, ?_⟩
                            rw [hodd, show oddG t k x 10 wi si at_ n = ⟨t.frame, t.tens.set k (⟨x.unit, x.fns, x.queue, x.wins, x.slts.set si ⟨a.pos, n⟩⟩ : Ten)⟩ by simp only [oddG, oddX, Int.reduceEq, reduceCtorEq, ↓reduceIte, List.append_nil, modF_lt hsl2 hae]]
                            exact odd_done (by repeat (first | exact F1 | refine Fr.new ?_ _ | refine Fr.set ?_ (by omega) (by first | omega | (simp only [nxt_new, nxt_set]; omega)) _)) (by first | omega | (simp only [go_sem]; omega)) au (by omega) au ⟨.own (s.nxt + 1 + 1 + 1) 0 x.wins.length, .own (s.nxt + 1 + 1 + 1 + 1) 0 x.slts.length, rfl, .inr ⟨(s.nxt + 1 + 1 + 1), _, by simp, by omega, (by first | (exact au) | (simp only [List.map_set, List.map_append, List.map_cons, List.map_nil]; exact au))⟩, .inr ⟨(s.nxt + 1 + 1 + 1 + 1), _, by simp, by omega, (by first | (exact au) | (simp only [List.map_set, List.map_append, List.map_cons, List.map_nil]; exact au))⟩⟩
                          · have hc := hc16
                            refine rk (k := rB (k := ?_))
                            have hw9 : wv = 10 := by have h := of_decide_eq_true hc15; omega
                            subst hw9
                            refine rp [4, 8] (k := ?_)
                            refine hJb0 _ _ ⟨rfl, au, ?_⟩
                            rw [hodd, show oddG t k x 10 wi si at_ n = ⟨t.frame, t.tens.set k (⟨x.unit, x.fns, x.queue, x.wins, x.slts⟩ : Ten)⟩ by simp only [oddG, oddX, Int.reduceEq, reduceCtorEq, ↓reduceIte, List.append_nil, modF_ge (show x.slts.length ≤ si by have := of_decide_eq_false hc16; first | omega | simp_all)]]
                            exact odd_done (by repeat (first | exact F1 | refine Fr.new ?_ _ | refine Fr.set ?_ (by omega) (by first | omega | (simp only [nxt_new, nxt_set]; omega)) _)) (by first | omega | (simp only [go_sem]; omega)) au (by omega) au ⟨.own (s.nxt + 1 + 1 + 1) 0 x.wins.length, .own (s.nxt + 1 + 1 + 1 + 1) 0 x.slts.length, rfl, .inr ⟨(s.nxt + 1 + 1 + 1), _, by simp, by omega, (by first | (exact au) | (simp only [List.map_set, List.map_append, List.map_cons, List.map_nil]; exact au))⟩, .inr ⟨(s.nxt + 1 + 1 + 1 + 1), _, by simp, by omega, (by first | (exact au) | (simp only [List.map_set, List.map_append, List.map_cons, List.map_nil]; exact au))⟩⟩
                        · have hc := hc15
                          refine rs (k := rg [3, 4, 8, 10, 11, 56, 215] (k := rc (ht := fun hc17 => ?_) (hf := fun hc17 => ?_)))
                          · have hc := hc17
                            refine Run.drawCut 6 [] Try.mixed (by kernel_rfl) (by kernel_rfl) ?_
                            refine DetC.all au ?_
                            refine RunO.appendOwn au au au Try.td22 (by rw [Try.zp47]; rfl) (fun p hp => by rw [List.mem_singleton.1 hp]; exact ⟨rfl, by rw [Try.cz47]; rfl⟩) (by rw [Try.by47]; decide) (by rw [Try.by47]; simp; omega) (v := .own s1.nxt 0 (t.tens.length + 1)) (s' := (s1.set (s.nxt + 1 + 1) none).new (.row 47 ((t.tens.map Ten.pv).set k (.agg [.int .i64 x.unit, .int .u32 x.fns, .int .i64 x.queue, .own (s.nxt + 1 + 1 + 1) 0 x.wins.length, .own (s.nxt + 1 + 1 + 1 + 1) 0 x.slts.length]) ++ [.agg [.int .i64 x.unit, .int .u32 x.fns, .int .i64 x.queue, .own (s.nxt + 1 + 1 + 1) 0 x.wins.length, .own (s.nxt + 1 + 1 + 1 + 1) 0 x.slts.length]]))) (by unfold aAppendOwn; rw [bA]; simp only [ne_eq, List.cons_ne_nil, not_false_eq_true, List.length_set, List.length_map, Nat.le_refl, and_self, if_true, List.length_cons, List.length_nil, Nat.zero_add]; rw [List.take_of_length_le (by simp)]) ?_
                            refine rh [4, 8] (k := rB (k := ?_))
                            have hw9 : wv = 11 := by have h := of_decide_eq_true hc17; omega
                            subst hw9
                            refine rp [4, 8] (k := ?_)
                            refine hJb0 _ _ ⟨rfl, au, ?_⟩
                            rw [hodd, show oddG t k x 11 wi si at_ n = ⟨t.frame, t.tens.set k (⟨x.unit, x.fns, x.queue, x.wins, x.slts⟩ : Ten) ++ [(⟨x.unit, x.fns, x.queue, x.wins, x.slts⟩ : Ten)]⟩ by simp only [oddG, oddX, Int.reduceEq, reduceCtorEq, ↓reduceIte, List.append_nil]]
                            exact odd_app (by repeat (first | exact F1 | refine Fr.new ?_ _ | refine Fr.set ?_ (by omega) (by first | omega | (simp only [nxt_new, nxt_set]; omega)) _)) (by first | omega | (simp only [go_sem]; omega)) au (by omega) au ⟨.own (s.nxt + 1 + 1 + 1) 0 x.wins.length, .own (s.nxt + 1 + 1 + 1 + 1) 0 x.slts.length, rfl, .inr ⟨(s.nxt + 1 + 1 + 1), _, by simp, by omega, (by first | (exact au) | (simp only [List.map_set, List.map_append, List.map_cons, List.map_nil]; exact au))⟩, .inr ⟨(s.nxt + 1 + 1 + 1 + 1), _, by simp, by omega, (by first | (exact au) | (simp only [List.map_set, List.map_append, List.map_cons, List.map_nil]; exact au))⟩⟩
                          · have hc := hc17
                            refine rs (k := rg [3, 4, 8, 10, 11, 225] (k := rc (ht := fun hc18 => ?_) (hf := fun hc18 => ?_)))
                            · have hc := hc18
                              refine rg [4, 8] (k := rB (k := ?_))
                              have hw9 : wv = 12 := by have h := of_decide_eq_true hc18; omega
                              subst hw9
                              refine rp [4, 8] (k := ?_)
                              refine hJb0 _ _ ⟨rfl, au, ?_⟩
                              rw [hodd, show oddG t k x 12 wi si at_ n = ⟨t.frame, t.tens.set k (⟨x.unit, x.fns, x.queue, x.wins, []⟩ : Ten)⟩ by simp only [oddG, oddX, Int.reduceEq, reduceCtorEq, ↓reduceIte, List.append_nil]]
                              exact odd_done (by repeat (first | exact F1 | refine Fr.new ?_ _ | refine Fr.set ?_ (by omega) (by first | omega | (simp only [nxt_new, nxt_set]; omega)) _)) (by first | omega | (simp only [go_sem]; omega)) au (by omega) au ⟨.own (s.nxt + 1 + 1 + 1) 0 x.wins.length, .sl .nil [], rfl, .inr ⟨(s.nxt + 1 + 1 + 1), _, by simp, by omega, (by first | (exact au) | (simp only [List.map_set, List.map_append, List.map_cons, List.map_nil]; exact au))⟩, .inl ⟨.nil, rfl⟩⟩
                            · have hc := hc18
                              refine rs (k := rg [3, 4, 8, 10, 11, 63] (k := rc (ht := fun hc19 => ?_) (hf := fun hc19 => ?_)))
                              · have hc := hc19
                                have hwl2 : wi < x.wins.length := by have := of_decide_eq_true hc; omega
                                have hwi1 : ((wi : Int) < (x.wins.length : Int)) = True := eq_true (by omega)
                                obtain ⟨w, hwe⟩ : ∃ z_, x.wins[wi]'hwl2 = z_ := ⟨_, rfl⟩
                                have hxw : (x.wins.map Win.pv)[wi]? = some (.agg [.int .i64 (w).space, .int .i64 (w).virt, .int .i64 (w).phys, .int .i64 (w).cnt]) := by rw [map_get hwl2, hwe]; rfl
                                have hb7 := ibits_and_le n 7 (by decide)
                                obtain ⟨g7, hg7⟩ : ∃ y, ibits .and .i64 n 7 = y := ⟨_, rfl⟩
                                have hb7 : 0 ≤ g7 ∧ g7 ≤ 7 := hg7 ▸ hb7
                                have H := aj hwi1 (aj hxw (aj hg7 H))
                                refine rg [4, 8] (k := rB (k := ?_))
                                have hw9 : wv = 13 := by have := of_decide_eq_false hc1; have := of_decide_eq_false hc2; have := of_decide_eq_false hc3; have := of_decide_eq_false hc4; have := of_decide_eq_false hc5; have := of_decide_eq_false hc6; have := of_decide_eq_false hc7; have := of_decide_eq_false hc9; have := of_decide_eq_false hc11; have := of_decide_eq_false hc13; have := of_decide_eq_false hc15; have := of_decide_eq_false hc17; have := of_decide_eq_false hc18; omega
                                subst hw9
                                refine rp [4, 8] (k := ?_)
                                refine hJb0 _ _ ⟨rfl, au, ?_⟩
                                rw [hodd, show oddG t k x 13 wi si at_ n = ⟨t.frame, t.tens.set k (⟨x.unit, x.fns, x.queue, x.wins.set wi ⟨g7, w.virt, w.phys, w.cnt⟩, x.slts⟩ : Ten)⟩ by simp only [oddG, oddX, Int.reduceEq, reduceCtorEq, ↓reduceIte, List.append_nil, modF_lt hwl2 hwe, hg7]]
                                exact odd_done (by repeat (first | exact F1 | refine Fr.new ?_ _ | refine Fr.set ?_ (by omega) (by first | omega | (simp only [nxt_new, nxt_set]; omega)) _)) (by first | omega | (simp only [go_sem]; omega)) au (by omega) au ⟨.own (s.nxt + 1 + 1 + 1) 0 x.wins.length, .own (s.nxt + 1 + 1 + 1 + 1) 0 x.slts.length, rfl, .inr ⟨(s.nxt + 1 + 1 + 1), _, by simp, by omega, (by first | (exact au) | (simp only [List.map_set, List.map_append, List.map_cons, List.map_nil]; exact au))⟩, .inr ⟨(s.nxt + 1 + 1 + 1 + 1), _, by simp, by omega, (by first | (exact au) | (simp only [List.map_set, List.map_append, List.map_cons, List.map_nil]; exact au))⟩⟩
                              · have hc := hc19
                                refine rk (k := rB (k := ?_))
                                have hw9 : wv = 13 := by have := of_decide_eq_false hc1; have := of_decide_eq_false hc2; have := of_decide_eq_false hc3; have := of_decide_eq_false hc4; have := of_decide_eq_false hc5; have := of_decide_eq_false hc6; have := of_decide_eq_false hc7; have := of_decide_eq_false hc9; have := of_decide_eq_false hc11; have := of_decide_eq_false hc13; have := of_decide_eq_false hc15; have := of_decide_eq_false hc17; have := of_decide_eq_false hc18; omega
                                subst hw9
                                refine rp [4, 8] (k := ?_)
                                refine hJb0 _ _ ⟨rfl, au, ?_⟩
                                rw [hodd, show oddG t k x 13 wi si at_ n = ⟨t.frame, t.tens.set k (⟨x.unit, x.fns, x.queue, x.wins, x.slts⟩ : Ten)⟩ by simp only [oddG, oddX, Int.reduceEq, reduceCtorEq, ↓reduceIte, List.append_nil, modF_ge (show x.wins.length ≤ wi by have := of_decide_eq_false hc19; first | omega | simp_all)]]
                                exact odd_done (by repeat (first | exact F1 | refine Fr.new ?_ _ | refine Fr.set ?_ (by omega) (by first | omega | (simp only [nxt_new, nxt_set]; omega)) _)) (by first | omega | (simp only [go_sem]; omega)) au (by omega) au ⟨.own (s.nxt + 1 + 1 + 1) 0 x.wins.length, .own (s.nxt + 1 + 1 + 1 + 1) 0 x.slts.length, rfl, .inr ⟨(s.nxt + 1 + 1 + 1), _, by simp, by omega, (by first | (exact au) | (simp only [List.map_set, List.map_append, List.map_cons, List.map_nil]; exact au))⟩, .inr ⟨(s.nxt + 1 + 1 + 1 + 1), _, by simp, by omega, (by first | (exact au) | (simp only [List.map_set, List.map_append, List.map_cons, List.map_nil]; exact au))⟩⟩
set_option maxRecDepth 100000 in
theorem odd_wn {t : Tab} {m : Nat} (hm : m ≤ 1000) (ht : t.few m) {what at_ n : Int} (hwI : I64 what) (haI : I64 at_) (hnI : I64 n) {k : Nat} (hkw : withinI at_ 0 (t.tens.length - 1) = k) (hkl : k < t.tens.length) {x : Ten} (hxe : t.tens[k] = x) (hwe : x.wins ≠ []) (hse : x.slts = []) {s : St} : ACalls Try.prog 11 [t.pv, .int .i64 what, .int .i64 at_, .int .i64 n] s (fun r s' => r = (oddF t what at_ n).pv ∧ s' = s) := by
  refine go Try.func11 (k := fun hwf H => ?_)
  have hnt := ht.nt
  have hxm : x ∈ t.tens := by rw [← hxe]; exact List.getElem_mem _
  have hnw := ht.nw x hxm
  have hns := ht.ns x hxm
  have hte : t.tens ≠ [] := fun h => by rw [h] at hkl; simp at hkl
  have hxx : (t.tens.map Ten.pv)[k]? = some (.agg [.int .i64 (x).unit, .int .u32 (x).fns, .int .i64 (x).queue, .sl .unk ((x).wins.map Win.pv), .sl .unk ((x).slts.map Slt.pv)]) := by rw [map_get hkl, hxe]; rfl
  have hgs : ∀ X, ((t.tens.map Ten.pv).set k X)[k]? = some X := fun X => by rw [List.getElem?_set]; simp [hkl]
  have hwl : IntKind.i64.wrap ((t.tens.length : Int) - 1) = (t.tens.length : Int) - 1 := wrap_i64 (by omega)
  have htl0 : ((t.tens.length : Int) = 0) = False := eq_false (by omega)
  have hk2 : ((k : Int) < (t.tens.length : Int)) = True := eq_true (by omega)
  have H := aj hgs (aj hwl (aj hkw (aj hk2 (aj htl0 (aj hse H)))))
  refine rs (k := rg [1, 2, 3, 4, 8] (k := rs (k := rr (k := rO (k := ro (pre := [_, _]) (k := ?_))))))
  refine RunO.appendFirst au au au Try.td22 (by rw [Try.zp47]; rfl) (isEls_none _ _) (isEls_map (f := Ten.pv) (fun a => ⟨rfl, by rw [Try.cz47]; rfl⟩) _) (by rw [Try.by47]; decide) (by rw [Try.by47]; simp; omega) (by simp only [aAppendFirst, List.map_eq_nil_iff, ne_eq, hte, not_false_eq_true, if_true, List.length_nil, Nat.zero_add, List.length_map, List.nil_append, go_sem]; rfl) ?_
  refine rh [1, 2, 3, 4, 8] (k := rs (k := rs (k := rg [1, 2, 3, 4, 8, 21] (k := rc (ht := fun hc0 => ?_) (hf := fun hc0 => ?_)))))
  · cases hc0
  · have hc := hc0
    refine rk (k := rs (k := rr (k := ro (pre := [_, _, _, _, _]) (k := rC (h := within_ (lo := 0) (hi := (t.tens.length : Int) - 1) (by decide) (by omega) (by omega)) (k := rh [1, 2, 3, 4, 8, 9] (k := rs (k := rg [1, 2, 3, 4, 8, 10] (k := rs (k := ?_)))))))))
    have H := aj hxx H
    refine rr (k := ro (pre := [_]) (k := rO (k := ro (pre := [_, _, _, _]) (k := ?_))))
    refine RunO.appendFirst au au au Try.td44 (by rw [Try.zp58]; rfl) (isEls_none _ _) (isEls_map (f := Win.pv) (fun a => ⟨rfl, by rw [Try.cz58]; rfl⟩) _) (by rw [Try.by58]; decide) (by rw [Try.by58]; simp; omega) (by simp only [aAppendFirst, List.map_eq_nil_iff, ne_eq, hwe, not_false_eq_true, if_true, List.length_nil, Nat.zero_add, List.length_map, List.nil_append, go_sem]; rfl) ?_
    refine rh [1, 2, 3, 4, 8, 10] (k := rs (k := rr (k := ro (pre := [_]) (k := rO (k := ro (pre := [_, _, _, _]) (k := ?_))))))
    refine RunO.append au au au Try.td45 (by rw [Try.zp49]; rfl) (isEls_none _ _) (isEls_none _ _) (by rw [Try.by49]; decide) (by simp) (v := .sl .clip []) (by unfold aAppend; rw [if_pos rfl]) ?_
    refine rh [1, 2, 3, 4, 8, 10] (k := rs (k := ?_))
    refine Run.abs (fun s1 => Fr s s1 ∧ s1.nxt = s.nxt + 1 + 1 + 1 + 1 ∧ s1.blk s.nxt = some (.row 24 [.agg [.int .i64 t.frame, .own (s.nxt + 1 + 1) 0 t.tens.length]]) ∧ s1.blk (s.nxt + 1) = some (.row 24 [.agg [.int .i64 0, .sl .nil []]]) ∧ s1.blk (s.nxt + 1 + 1) = some (.row 47 ((t.tens.map Ten.pv).set k (.agg [.int .i64 x.unit, .int .u32 x.fns, .int .i64 x.queue, .own (s.nxt + 1 + 1 + 1) 0 x.wins.length, .sl .clip []]))) ∧ s1.blk (s.nxt + 1 + 1 + 1) = some (.row 58 (x.wins.map Win.pv))) ⟨by repeat (first | exact Fr.refl hwf | refine Fr.new ?_ _ | refine Fr.set ?_ (by omega) (by simp only [nxt_new, nxt_set]; omega) _), by simp only [go_sem], by simp only [go_sem, ↓reduceIte, Nat.reduceEqDiff, Nat.reduceAdd], by simp only [go_sem, ↓reduceIte, Nat.reduceEqDiff, Nat.reduceAdd], by simp only [go_sem, ↓reduceIte, Nat.reduceEqDiff, Nat.reduceAdd], by simp only [go_sem, ↓reduceIte, Nat.reduceEqDiff, Nat.reduceAdd]⟩ ?_
    rintro s1 ⟨F1, hn1, b4, b8, bA, bB⟩
    have hwi0 := withinI_bound (n := n) (lo := 0) (hi := 5) (by decide)
    have hsi0 := withinI_bound (n := n) (lo := 0) (hi := 2) (by decide)
    obtain ⟨wi, hwi⟩ : ∃ y : Nat, withinI n 0 5 = y := ⟨_, (Int.toNat_of_nonneg hwi0.1).symm⟩
    obtain ⟨si, hsi⟩ : ∃ y : Nat, withinI n 0 2 = y := ⟨_, (Int.toNat_of_nonneg hsi0.1).symm⟩
    have z0 : (s.nxt = s1.nxt) = False := eq_false (by omega)
    have z1 : (s.nxt + 1 = s1.nxt) = False := eq_false (by omega)
    have z2 : (s.nxt + 1 + 1 = s1.nxt) = False := eq_false (by omega)
    have z3 : (s.nxt + 1 + 1 + 1 = s1.nxt) = False := eq_false (by omega)
    have y0 : (s1.nxt = s.nxt) = False := eq_false (by omega)
    have y1 : (s1.nxt = s.nxt + 1) = False := eq_false (by omega)
    have y2 : (s1.nxt = s.nxt + 1 + 1) = False := eq_false (by omega)
    have y3 : (s1.nxt = s.nxt + 1 + 1 + 1) = False := eq_false (by omega)
    have H := aj b4 (aj b8 (aj bA (aj bB (aj hwi (aj hsi (aj z0 (aj z1 (aj z2 (aj z3 (aj y0 (aj y1 (aj y2 (aj y3 H)))))))))))))
    refine rr (k := ro (pre := [_]) (k := rC (h := within_ (lo := 0) (hi := 5) (by decide) (by decide) (by decide)) (k := ro (pre := [_]) (k := rC (h := within_ (lo := 0) (hi := 2) (by decide) (by decide) (by decide)) (k := rh [1, 2, 3, 4, 8, 10, 11, 12] (k := rs (k := rs (k := rr (k := ro (pre := [_]) (k := rC (h := within_ (lo := 0) (hi := 13) (by decide) (by decide) (by decide)) (k := ?_)))))))))))
    refine rl [2, 3, 4, 8, 10, 11, 12, 56] (k := ?_)
    refine Run.join (fun e s' => e = [(4, .ptr s.nxt 0 0), (8, .ptr (s.nxt + 1) 0 0)] ∧ s'.blk (s.nxt + 1) = some (.row 24 [.agg [.int .i64 0, .sl .nil []]]) ∧ OddR s s' (oddF t what at_ n)) ?_ ?_
    · rintro e s2 ⟨rfl, r0, hO⟩
      obtain ⟨A', els, r1, r2, r3, r4, r5⟩ := hO.row
      have H := aj r0 (aj r1 H)
      refine rs (k := rg [8] (k := rR (k := ?_)))
      exact Ret.pureF (r' := (oddF t what at_ n).pv) 7 (by simp only [Try.f11, go_sem, ↓reduceIte, r0, r1] <;> rfl) ((hO.set _).frz (by simp only [go_sem, ↓reduceIte]; exact r1)) (blw_tab _ _) hwf (hO.set _).fr.blk ⟨rfl, rfl⟩
    intro hJb0
    refine rb (k := rs (k := ?_))
    obtain ⟨wv, hwv⟩ : ∃ y, withinI what 0 13 = y := ⟨_, rfl⟩
    have hwb := withinI_bound (n := what) (lo := 0) (hi := 13) (by decide)
    have hodd := oddF_eq hkw hkl hxe hwv hwi hsi (at_ := at_)
    rw [hwv]
    rw [hwv] at hwb
    refine rg [2, 3, 4, 8, 10, 11, 12, 56, 73] (k := rc (ht := fun hc1 => ?_) (hf := fun hc1 => ?_))
    · have hc := hc1
      refine rg [4, 8] (k := rB (k := ?_))
      have hw9 : wv = 0 := by have h := of_decide_eq_true hc1; omega
      subst hw9
      refine rp [4, 8] (k := ?_)
      refine hJb0 _ _ ⟨rfl, au, ?_⟩
      rw [hodd, show oddG t k x 0 wi si at_ n = ⟨n, t.tens.set k (⟨x.unit, x.fns, x.queue, x.wins, x.slts⟩ : Ten)⟩ by simp only [oddG, oddX, Int.reduceEq, reduceCtorEq, ↓reduceIte, List.append_nil]]
      exact odd_done (by repeat (first | exact F1 | refine Fr.new ?_ _ | refine Fr.set ?_ (by omega) (by first | omega | (simp only [nxt_new, nxt_set]; omega)) _)) (by first | omega | (simp only [go_sem]; omega)) au (by omega) au ⟨.own (s.nxt + 1 + 1 + 1) 0 x.wins.length, .sl .clip [], rfl, .inr ⟨(s.nxt + 1 + 1 + 1), _, by simp, by omega, (by first | (exact au) | (simp only [List.map_set, List.map_append, List.map_cons, List.map_nil]; exact au))⟩, .inl ⟨.clip, by simp [hse]⟩⟩
    · have hc := hc1
      refine rs (k := rg [2, 3, 4, 8, 10, 11, 12, 56, 77] (k := rc (ht := fun hc2 => ?_) (hf := fun hc2 => ?_)))
      · have hc := hc2
        refine rg [4, 8] (k := rB (k := ?_))
        have hw9 : wv = 1 := by have h := of_decide_eq_true hc2; omega
        subst hw9
        refine rp [4, 8] (k := ?_)
        refine hJb0 _ _ ⟨rfl, au, ?_⟩
        rw [hodd, show oddG t k x 1 wi si at_ n = ⟨t.frame, t.tens.set k (⟨n, x.fns, x.queue, x.wins, x.slts⟩ : Ten)⟩ by simp only [oddG, oddX, Int.reduceEq, reduceCtorEq, ↓reduceIte, List.append_nil]]
        exact odd_done (by repeat (first | exact F1 | refine Fr.new ?_ _ | refine Fr.set ?_ (by omega) (by first | omega | (simp only [nxt_new, nxt_set]; omega)) _)) (by first | omega | (simp only [go_sem]; omega)) au (by omega) au ⟨.own (s.nxt + 1 + 1 + 1) 0 x.wins.length, .sl .clip [], rfl, .inr ⟨(s.nxt + 1 + 1 + 1), _, by simp, by omega, (by first | (exact au) | (simp only [List.map_set, List.map_append, List.map_cons, List.map_nil]; exact au))⟩, .inl ⟨.clip, by simp [hse]⟩⟩
      · have hc := hc2
        refine rs (k := rg [2, 3, 4, 8, 10, 11, 12, 56, 83] (k := rc (ht := fun hc3 => ?_) (hf := fun hc3 => ?_)))
        · have hc := hc3
          refine rg [4, 8] (k := rB (k := ?_))
          have hw9 : wv = 2 := by have h := of_decide_eq_true hc3; omega
          subst hw9
          refine rp [4, 8] (k := ?_)
          refine hJb0 _ _ ⟨rfl, au, ?_⟩
          rw [hodd, show oddG t k x 2 wi si at_ n = ⟨t.frame, t.tens.set k (⟨x.unit, x.fns, n, x.wins, x.slts⟩ : Ten)⟩ by simp only [oddG, oddX, Int.reduceEq, reduceCtorEq, ↓reduceIte, List.append_nil]]
          exact odd_done (by repeat (first | exact F1 | refine Fr.new ?_ _ | refine Fr.set ?_ (by omega) (by first | omega | (simp only [nxt_new, nxt_set]; omega)) _)) (by first | omega | (simp only [go_sem]; omega)) au (by omega) au ⟨.own (s.nxt + 1 + 1 + 1) 0 x.wins.length, .sl .clip [], rfl, .inr ⟨(s.nxt + 1 + 1 + 1), _, by simp, by omega, (by first | (exact au) | (simp only [List.map_set, List.map_append, List.map_cons, List.map_nil]; exact au))⟩, .inl ⟨.clip, by simp [hse]⟩⟩
        · have hc := hc3
          refine rs (k := rg [2, 3, 4, 8, 10, 11, 12, 56, 89] (k := rc (ht := fun hc4 => ?_) (hf := fun hc4 => ?_)))
          · have hc := hc4
            refine rg [4, 8] (k := rB (k := ?_))
            have hw9 : wv = 3 := by have h := of_decide_eq_true hc4; omega
            subst hw9
            refine rp [4, 8] (k := ?_)
            refine hJb0 _ _ ⟨rfl, au, ?_⟩
            rw [hodd, show oddG t k x 3 wi si at_ n = ⟨t.frame, t.tens.set k (⟨x.unit, IntKind.u32.wrap n, x.queue, x.wins, x.slts⟩ : Ten)⟩ by simp only [oddG, oddX, Int.reduceEq, reduceCtorEq, ↓reduceIte, List.append_nil]]
            exact odd_done (by repeat (first | exact F1 | refine Fr.new ?_ _ | refine Fr.set ?_ (by omega) (by first | omega | (simp only [nxt_new, nxt_set]; omega)) _)) (by first | omega | (simp only [go_sem]; omega)) au (by omega) au ⟨.own (s.nxt + 1 + 1 + 1) 0 x.wins.length, .sl .clip [], rfl, .inr ⟨(s.nxt + 1 + 1 + 1), _, by simp, by omega, (by first | (exact au) | (simp only [List.map_set, List.map_append, List.map_cons, List.map_nil]; exact au))⟩, .inl ⟨.clip, by simp [hse]⟩⟩
          · have hc := hc4
            refine rs (k := rg [2, 3, 4, 8, 10, 11, 12, 56, 96] (k := rc (ht := fun hc5 => ?_) (hf := fun hc5 => ?_)))
            · have hc := hc5
              refine rr (k := ro (pre := [_, _, _, _, _, _, _]) (k := rO (k := ?_)))
              refine RunO.appendFirst au au au Try.td45 (by rw [Try.zp49]; rfl) (isEls_none _ _) (isEls_map (f := Slt.pv) (fun a => ⟨rfl, by rw [Try.cz49]; rfl⟩) [⟨n, 72⟩]) (by rw [Try.by49]; decide) (by rw [Try.by49]; simp) (v := .own s1.nxt 0 1) (s' := s1.new (.row 49 [.agg [.int .i64 n, .int .i64 72]])) (by simp [aAppendFirst, Slt.pv, Win.pv]) ?_
              refine rh [4, 8] (k := rB (k := ?_))
              have hw9 : wv = 4 := by have h := of_decide_eq_true hc5; omega
              subst hw9
              refine rp [4, 8] (k := ?_)
              refine hJb0 _ _ ⟨rfl, au, ?_⟩
              rw [hodd, show oddG t k x 4 wi si at_ n = ⟨t.frame, t.tens.set k (⟨x.unit, x.fns, x.queue, x.wins, x.slts ++ [⟨n, 72⟩]⟩ : Ten)⟩ by simp only [oddG, oddX, Int.reduceEq, reduceCtorEq, ↓reduceIte, List.append_nil]]
              exact odd_done (by repeat (first | exact F1 | refine Fr.new ?_ _ | refine Fr.set ?_ (by omega) (by first | omega | (simp only [nxt_new, nxt_set]; omega)) _)) (by first | omega | (simp only [go_sem]; omega)) au (by omega) au ⟨.own (s.nxt + 1 + 1 + 1) 0 x.wins.length, .own s1.nxt 0 1, rfl, .inr ⟨(s.nxt + 1 + 1 + 1), _, by simp, by omega, (by first | (exact au) | (simp only [List.map_set, List.map_append, List.map_cons, List.map_nil]; exact au))⟩, .inr ⟨s1.nxt, _, by simp [hse], by omega, (by first | (exact au) | (simp only [List.map_set, List.map_append, List.map_cons, List.map_nil]; exact au))⟩⟩
            · have hc := hc5
              refine rs (k := rg [2, 3, 4, 8, 10, 11, 12, 56, 109] (k := rc (ht := fun hc6 => ?_) (hf := fun hc6 => ?_)))
              · have hc := hc6
                have hb0 := ibits_and_le n 3 (by decide)
                have hb1 := ibits_and_le at_ 1023 (by decide)
                have hb2 := ibits_and_le n 511 (by decide)
                have hb3 := ibits_and_le at_ 31 (by decide)
                obtain ⟨g0, hg0⟩ : ∃ y, ibits .and .i64 n 3 = y := ⟨_, rfl⟩
                obtain ⟨g1, hg1⟩ : ∃ y, ibits .and .i64 at_ 1023 = y := ⟨_, rfl⟩
                obtain ⟨g2, hg2⟩ : ∃ y, ibits .and .i64 n 511 = y := ⟨_, rfl⟩
                obtain ⟨g4, hg4⟩ : ∃ y, ibits .and .i64 at_ 31 = y := ⟨_, rfl⟩
                have hb0 : 0 ≤ g0 ∧ g0 ≤ 3 := hg0 ▸ hb0
                have hb1 : 0 ≤ g1 ∧ g1 ≤ 1023 := hg1 ▸ hb1
                have hb2 : 0 ≤ g2 ∧ g2 ≤ 511 := hg2 ▸ hb2
                have hb3 : 0 ≤ g4 ∧ g4 ≤ 31 := hg4 ▸ hb3
                have hg3 : IntKind.i64.wrap (1 + g4) = 1 + g4 := wrap_i64 (by omega)
                have H := aj hg0 (aj hg1 (aj hg2 (aj hg4 (aj hg3 H))))
                refine rr (k := ro (pre := [_, _, _, _, _, _, _, _, _, _, _, _, _, _, _]) (k := rO (k := ?_)))
                refine RunO.appendOwn au au au Try.td44 (by rw [Try.zp58]; rfl) (isEls_map (f := Win.pv) (fun a => ⟨rfl, by rw [Try.cz58]; rfl⟩) [⟨g0, g1, g2, 1 + g4⟩]) (by rw [Try.by58]; decide) (by rw [Try.by58]; simp; omega) (v := .own s1.nxt 0 (x.wins.length + 1)) (s' := (s1.set (s.nxt + 1 + 1 + 1) none).new (.row 58 (x.wins.map Win.pv ++ [.agg [.int .i64 g0, .int .i64 g1, .int .i64 g2, .int .i64 (1 + g4)]]))) (by unfold aAppendOwn; rw [bB]; simp only [ne_eq, List.cons_ne_nil, not_false_eq_true, List.length_map, Nat.le_refl, and_self, if_true, List.length_cons, List.length_nil, Nat.zero_add]; rw [List.take_of_length_le (by rw [List.length_map]; exact Nat.le_refl _)]; rfl) ?_
                refine rh [4, 8] (k := rB (k := ?_))
                have hw9 : wv = 5 := by have h := of_decide_eq_true hc6; omega
                subst hw9
                refine rp [4, 8] (k := ?_)
                refine hJb0 _ _ ⟨rfl, au, ?_⟩
                rw [hodd, show oddG t k x 5 wi si at_ n = ⟨t.frame, t.tens.set k (⟨x.unit, x.fns, x.queue, x.wins ++ [⟨g0, g1, g2, 1 + g4⟩], x.slts⟩ : Ten)⟩ by simp only [oddG, oddX, Int.reduceEq, reduceCtorEq, ↓reduceIte, List.append_nil, hg0, hg1, hg2, hg4]]
                exact odd_done (by repeat (first | exact F1 | refine Fr.new ?_ _ | refine Fr.set ?_ (by omega) (by first | omega | (simp only [nxt_new, nxt_set]; omega)) _)) (by first | omega | (simp only [go_sem]; omega)) au (by omega) au ⟨.own s1.nxt 0 (x.wins.length + 1), .sl .clip [], rfl, .inr ⟨s1.nxt, _, by simp, by omega, (by first | (exact au) | (simp only [List.map_set, List.map_append, List.map_cons, List.map_nil]; exact au))⟩, .inl ⟨.clip, by simp [hse]⟩⟩
              · have hc := hc6
                refine rs (k := rg [3, 4, 8, 10, 11, 12, 56, 130] (k := rc (ht := fun hc7 => ?_) (hf := fun hc7 => ?_)))
                · have hc := hc7
                  refine rs (k := rg [3, 4, 8, 10, 11, 138] (k := rc (ht := fun hc8 => ?_) (hf := fun hc8 => ?_)))
                  · have hc := hc8
                    have hwl2 : wi < x.wins.length := by have := of_decide_eq_true hc; omega
                    have hwi1 : ((wi : Int) < (x.wins.length : Int)) = True := eq_true (by omega)
                    obtain ⟨w, hwe⟩ : ∃ z_, x.wins[wi]'hwl2 = z_ := ⟨_, rfl⟩
                    have hxw : (x.wins.map Win.pv)[wi]? = some (.agg [.int .i64 (w).space, .int .i64 (w).virt, .int .i64 (w).phys, .int .i64 (w).cnt]) := by rw [map_get hwl2, hwe]; rfl
                    have H := aj hwi1 (aj hxw H)
                    refine rg [4, 8] (k := rB (k := ?_))
                    have hw9 : wv = 6 := by have h := of_decide_eq_true hc7; omega
                    subst hw9
                    refine rp [4, 8] (k := ?_)
                    refine hJb0 _ _ ⟨rfl, au, ?_⟩
                    rw [hodd, show oddG t k x 6 wi si at_ n = ⟨t.frame, t.tens.set k (⟨x.unit, x.fns, x.queue, x.wins.set wi ⟨w.space, w.virt, n, w.cnt⟩, x.slts⟩ : Ten)⟩ by simp only [oddG, oddX, Int.reduceEq, reduceCtorEq, ↓reduceIte, List.append_nil, modF_lt hwl2 hwe]]
                    exact odd_done (by repeat (first | exact F1 | refine Fr.new ?_ _ | refine Fr.set ?_ (by omega) (by first | omega | (simp only [nxt_new, nxt_set]; omega)) _)) (by first | omega | (simp only [go_sem]; omega)) au (by omega) au ⟨.own (s.nxt + 1 + 1 + 1) 0 x.wins.length, .sl .clip [], rfl, .inr ⟨(s.nxt + 1 + 1 + 1), _, by simp, by omega, (by first | (exact au) | (simp only [List.map_set, List.map_append, List.map_cons, List.map_nil]; exact au))⟩, .inl ⟨.clip, by simp [hse]⟩⟩
                  · have hc := hc8
                    refine rk (k := rB (k := ?_))
                    have hw9 : wv = 6 := by have h := of_decide_eq_true hc7; omega
                    subst hw9
                    refine rp [4, 8] (k := ?_)
                    refine hJb0 _ _ ⟨rfl, au, ?_⟩
                    rw [hodd, show oddG t k x 6 wi si at_ n = ⟨t.frame, t.tens.set k (⟨x.unit, x.fns, x.queue, x.wins, x.slts⟩ : Ten)⟩ by simp only [oddG, oddX, Int.reduceEq, reduceCtorEq, ↓reduceIte, List.append_nil, modF_ge (show x.wins.length ≤ wi by have := of_decide_eq_false hc8; first | omega | simp_all)]]
                    exact odd_done (by repeat (first | exact F1 | refine Fr.new ?_ _ | refine Fr.set ?_ (by omega) (by first | omega | (simp only [nxt_new, nxt_set]; omega)) _)) (by first | omega | (simp only [go_sem]; omega)) au (by omega) au ⟨.own (s.nxt + 1 + 1 + 1) 0 x.wins.length, .sl .clip [], rfl, .inr ⟨(s.nxt + 1 + 1 + 1), _, by simp, by omega, (by first | (exact au) | (simp only [List.map_set, List.map_append, List.map_cons, List.map_nil]; exact au))⟩, .inl ⟨.clip, by simp [hse]⟩⟩
                · have hc := hc7
                  refine rs (k := rg [3, 4, 8, 10, 11, 12, 56, 147] (k := rc (ht := fun hc9 => ?_) (hf := fun hc9 => ?_)))
                  · have hc := hc9
                    refine rs (k := rg [3, 4, 8, 10, 11, 155] (k := rc (ht := fun hc10 => ?_) (hf := fun hc10 => ?_)))
                    · have hc := hc10
                      have hwl2 : wi < x.wins.length := by have := of_decide_eq_true hc; omega
                      have hwi1 : ((wi : Int) < (x.wins.length : Int)) = True := eq_true (by omega)
                      obtain ⟨w, hwe⟩ : ∃ z_, x.wins[wi]'hwl2 = z_ := ⟨_, rfl⟩
                      have hxw : (x.wins.map Win.pv)[wi]? = some (.agg [.int .i64 (w).space, .int .i64 (w).virt, .int .i64 (w).phys, .int .i64 (w).cnt]) := by rw [map_get hwl2, hwe]; rfl
                      have H := aj hwi1 (aj hxw H)
                      refine rg [4, 8] (k := rB (k := ?_))
                      have hw9 : wv = 7 := by have h := of_decide_eq_true hc9; omega
                      subst hw9
                      refine rp [4, 8] (k := ?_)
                      refine hJb0 _ _ ⟨rfl, au, ?_⟩
                      rw [hodd, show oddG t k x 7 wi si at_ n = ⟨t.frame, t.tens.set k (⟨x.unit, x.fns, x.queue, x.wins.set wi ⟨w.space, n, w.phys, w.cnt⟩, x.slts⟩ : Ten)⟩ by simp only [oddG, oddX, Int.reduceEq, reduceCtorEq, ↓reduceIte, List.append_nil, modF_lt hwl2 hwe]]
                      exact odd_done (by repeat (first | exact F1 | refine Fr.new ?_ _ | refine Fr.set ?_ (by omega) (by first | omega | (simp only [nxt_new, nxt_set]; omega)) _)) (by first | omega | (simp only [go_sem]; omega)) au (by omega) au ⟨.own (s.nxt + 1 + 1 + 1) 0 x.wins.length, .sl .clip [], rfl, .inr ⟨(s.nxt + 1 + 1 + 1), _, by simp, by omega, (by first | (exact au) | (simp only [List.map_set, List.map_append, List.map_cons, List.map_nil]; exact au))⟩, .inl ⟨.clip, by simp [hse]⟩⟩
                    · have hc := hc10
                      refine rk (k := rB (k := ?_))
                      have hw9 : wv = 7 := by have h := of_decide_eq_true hc9; omega
                      subst hw9
                      refine rp [4, 8] (k := ?_)
                      refine hJb0 _ _ ⟨rfl, au, ?_⟩
                      rw [hodd, show oddG t k x 7 wi si at_ n = ⟨t.frame, t.tens.set k (⟨x.unit, x.fns, x.queue, x.wins, x.slts⟩ : Ten)⟩ by simp only [oddG, oddX, Int.reduceEq, reduceCtorEq, ↓reduceIte, List.append_nil, modF_ge (show x.wins.length ≤ wi by have := of_decide_eq_false hc10; first | omega | simp_all)]]
                      exact odd_done (by repeat (first | exact F1 | refine Fr.new ?_ _ | refine Fr.set ?_ (by omega) (by first | omega | (simp only [nxt_new, nxt_set]; omega)) _)) (by first | omega | (simp only [go_sem]; omega)) au (by omega) au ⟨.own (s.nxt + 1 + 1 + 1) 0 x.wins.length, .sl .clip [], rfl, .inr ⟨(s.nxt + 1 + 1 + 1), _, by simp, by omega, (by first | (exact au) | (simp only [List.map_set, List.map_append, List.map_cons, List.map_nil]; exact au))⟩, .inl ⟨.clip, by simp [hse]⟩⟩
                  · have hc := hc9
                    refine rs (k := rg [3, 4, 8, 10, 11, 12, 56, 164] (k := rc (ht := fun hc11 => ?_) (hf := fun hc11 => ?_)))
                    · have hc := hc11
                      refine rs (k := rg [3, 4, 8, 10, 11, 172] (k := rc (ht := fun hc12 => ?_) (hf := fun hc12 => ?_)))
                      · have hc := hc12
                        have hwl2 : wi < x.wins.length := by have := of_decide_eq_true hc; omega
                        have hwi1 : ((wi : Int) < (x.wins.length : Int)) = True := eq_true (by omega)
                        obtain ⟨w, hwe⟩ : ∃ z_, x.wins[wi]'hwl2 = z_ := ⟨_, rfl⟩
                        have hxw : (x.wins.map Win.pv)[wi]? = some (.agg [.int .i64 (w).space, .int .i64 (w).virt, .int .i64 (w).phys, .int .i64 (w).cnt]) := by rw [map_get hwl2, hwe]; rfl
                        have H := aj hwi1 (aj hxw H)
                        refine rg [4, 8] (k := rB (k := ?_))
                        have hw9 : wv = 8 := by have h := of_decide_eq_true hc11; omega
                        subst hw9
                        refine rp [4, 8] (k := ?_)
                        refine hJb0 _ _ ⟨rfl, au, ?_⟩
                        rw [hodd, show oddG t k x 8 wi si at_ n = ⟨t.frame, t.tens.set k (⟨x.unit, x.fns, x.queue, x.wins.set wi ⟨w.space, w.virt, w.phys, n⟩, x.slts⟩ : Ten)⟩ by simp only [oddG, oddX, Int.reduceEq, reduceCtorEq, ↓reduceIte, List.append_nil, modF_lt hwl2 hwe]]
                        exact odd_done (by repeat (first | exact F1 | refine Fr.new ?_ _ | refine Fr.set ?_ (by omega) (by first | omega | (simp only [nxt_new, nxt_set]; omega)) _)) (by first | omega | (simp only [go_sem]; omega)) au (by omega) au ⟨.own (s.nxt + 1 + 1 + 1) 0 x.wins.length, .sl .clip [], rfl, .inr ⟨(s.nxt + 1 + 1 + 1), _, by simp, by omega, (by first | (exact au) | (simp only [List.map_set, List.map_append, List.map_cons, List.map_nil]; exact au))⟩, .inl ⟨.clip, by simp [hse]⟩⟩
                      · have hc := hc12
                        refine rk (k := rB (k := ?_))
                        have hw9 : wv = 8 := by have h := of_decide_eq_true hc11; omega
                        subst hw9
                        refine rp [4, 8] (k := ?_)
                        refine hJb0 _ _ ⟨rfl, au, ?_⟩
                        rw [hodd, show oddG t k x 8 wi si at_ n = ⟨t.frame, t.tens.set k (⟨x.unit, x.fns, x.queue, x.wins, x.slts⟩ : Ten)⟩ by simp only [oddG, oddX, Int.reduceEq, reduceCtorEq, ↓reduceIte, List.append_nil, modF_ge (show x.wins.length ≤ wi by have := of_decide_eq_false hc12; first | omega | simp_all)]]
                        exact odd_done (by repeat (first | exact F1 | refine Fr.new ?_ _ | refine Fr.set ?_ (by omega) (by first | omega | (simp only [nxt_new, nxt_set]; omega)) _)) (by first | omega | (simp only [go_sem]; omega)) au (by omega) au ⟨.own (s.nxt + 1 + 1 + 1) 0 x.wins.length, .sl .clip [], rfl, .inr ⟨(s.nxt + 1 + 1 + 1), _, by simp, by omega, (by first | (exact au) | (simp only [List.map_set, List.map_append, List.map_cons, List.map_nil]; exact au))⟩, .inl ⟨.clip, by simp [hse]⟩⟩
                    · have hc := hc11
                      refine rs (k := rg [3, 4, 8, 10, 11, 12, 56, 181] (k := rc (ht := fun hc13 => ?_) (hf := fun hc13 => ?_)))
                      · have hc := hc13
                        refine rs (k := rg [3, 4, 8, 10, 12, 189] (k := rc (ht := fun hc14 => ?_) (hf := fun hc14 => ?_)))
                        · have hc := hc14
                          exfalso
                          have h := of_decide_eq_true hc
                          first | omega | (simp at h; omega)
                        · have hc := hc14
                          refine rk (k := rB (k := ?_))
                          have hw9 : wv = 9 := by have h := of_decide_eq_true hc13; omega
                          subst hw9
                          refine rp [4, 8] (k := ?_)
                          refine hJb0 _ _ ⟨rfl, au, ?_⟩
                          rw [hodd, show oddG t k x 9 wi si at_ n = ⟨t.frame, t.tens.set k (⟨x.unit, x.fns, x.queue, x.wins, x.slts⟩ : Ten)⟩ by simp only [oddG, oddX, Int.reduceEq, reduceCtorEq, ↓reduceIte, List.append_nil, modF_ge (show x.slts.length ≤ si by have := of_decide_eq_false hc14; first | omega | simp_all)]]
                          exact odd_done (by repeat (first | exact F1 | refine Fr.new ?_ _ | refine Fr.set ?_ (by omega) (by first | omega | (simp only [nxt_new, nxt_set]; omega)) _)) (by first | omega | (simp only [go_sem]; omega)) au (by omega) au ⟨.own (s.nxt + 1 + 1 + 1) 0 x.wins.length, .sl .clip [], rfl, .inr ⟨(s.nxt + 1 + 1 + 1), _, by simp, by omega, (by first | (exact au) | (simp only [List.map_set, List.map_append, List.map_cons, List.map_nil]; exact au))⟩, .inl ⟨.clip, by simp [hse]⟩⟩
                      · have hc := hc13
                        refine rs (k := rg [3, 4, 8, 10, 11, 12, 56, 198] (k := rc (ht := fun hc15 => ?_) (hf := fun hc15 => ?_)))
                        · have hc := hc15
                          refine rs (k := rg [3, 4, 8, 10, 12, 206] (k := rc (ht := fun hc16 => ?_) (hf := fun hc16 => ?_)))
                          · have hc := hc16
                            exfalso
                            have h := of_decide_eq_true hc
                            first | omega | (simp at h; omega)
                          · have hc := hc16
                            refine rk (k := rB (k := ?_))
                            have hw9 : wv = 10 := by have h := of_decide_eq_true hc15; omega
                            subst hw9
                            refine rp [4, 8] (k := ?_)
                            refine hJb0 _ _ ⟨rfl, au, ?_⟩
                            rw [hodd, show oddG t k x 10 wi si at_ n = ⟨t.frame, t.tens.set k (⟨x.unit, x.fns, x.queue, x.wins, x.slts⟩ : Ten)⟩ by simp only [oddG, oddX, Int.reduceEq, reduceCtorEq, ↓reduceIte, List.append_nil, modF_ge (show x.slts.length ≤ si by have := of_decide_eq_false hc16; first | omega | simp_all)]]
                            exact odd_done (by repeat (first | exact F1 | refine Fr.new ?_ _ | refine Fr.set ?_ (by omega) (by first | omega | (simp only [nxt_new, nxt_set]; omega)) _)) (by first | omega | (simp only [go_sem]; omega)) au (by omega) au ⟨.own (s.nxt + 1 + 1 + 1) 0 x.wins.length, .sl .clip [], rfl, .inr ⟨(s.nxt + 1 + 1 + 1), _, by simp, by omega, (by first | (exact au) | (simp only [List.map_set, List.map_append, List.map_cons, List.map_nil]; exact au))⟩, .inl ⟨.clip, by simp [hse]⟩⟩
                        · have hc := hc15
                          refine rs (k := rg [3, 4, 8, 10, 11, 56, 215] (k := rc (ht := fun hc17 => ?_) (hf := fun hc17 => ?_)))
                          · have hc := hc17
                            refine Run.drawCut 6 [] Try.mixed (by kernel_rfl) (by kernel_rfl) ?_
                            refine DetC.all au ?_
                            refine RunO.appendOwn au au au Try.td22 (by rw [Try.zp47]; rfl) (fun p hp => by rw [List.mem_singleton.1 hp]; exact ⟨rfl, by rw [Try.cz47]; rfl⟩) (by rw [Try.by47]; decide) (by rw [Try.by47]; simp; omega) (v := .own s1.nxt 0 (t.tens.length + 1)) (s' := (s1.set (s.nxt + 1 + 1) none).new (.row 47 ((t.tens.map Ten.pv).set k (.agg [.int .i64 x.unit, .int .u32 x.fns, .int .i64 x.queue, .own (s.nxt + 1 + 1 + 1) 0 x.wins.length, .sl .clip []]) ++ [.agg [.int .i64 x.unit, .int .u32 x.fns, .int .i64 x.queue, .own (s.nxt + 1 + 1 + 1) 0 x.wins.length, .sl .clip []]]))) (by unfold aAppendOwn; rw [bA]; simp only [ne_eq, List.cons_ne_nil, not_false_eq_true, List.length_set, List.length_map, Nat.le_refl, and_self, if_true, List.length_cons, List.length_nil, Nat.zero_add]; rw [List.take_of_length_le (by simp)]) ?_
                            refine rh [4, 8] (k := rB (k := ?_))
                            have hw9 : wv = 11 := by have h := of_decide_eq_true hc17; omega
                            subst hw9
                            refine rp [4, 8] (k := ?_)
                            refine hJb0 _ _ ⟨rfl, au, ?_⟩
                            rw [hodd, show oddG t k x 11 wi si at_ n = ⟨t.frame, t.tens.set k (⟨x.unit, x.fns, x.queue, x.wins, x.slts⟩ : Ten) ++ [(⟨x.unit, x.fns, x.queue, x.wins, x.slts⟩ : Ten)]⟩ by simp only [oddG, oddX, Int.reduceEq, reduceCtorEq, ↓reduceIte, List.append_nil]]
                            exact odd_app (by repeat (first | exact F1 | refine Fr.new ?_ _ | refine Fr.set ?_ (by omega) (by first | omega | (simp only [nxt_new, nxt_set]; omega)) _)) (by first | omega | (simp only [go_sem]; omega)) au (by omega) au ⟨.own (s.nxt + 1 + 1 + 1) 0 x.wins.length, .sl .clip [], rfl, .inr ⟨(s.nxt + 1 + 1 + 1), _, by simp, by omega, (by first | (exact au) | (simp only [List.map_set, List.map_append, List.map_cons, List.map_nil]; exact au))⟩, .inl ⟨.clip, by simp [hse]⟩⟩
                          · have hc := hc17
                            refine rs (k := rg [3, 4, 8, 10, 11, 225] (k := rc (ht := fun hc18 => ?_) (hf := fun hc18 => ?_)))
                            · have hc := hc18
                              refine rg [4, 8] (k := rB (k := ?_))
                              have hw9 : wv = 12 := by have h := of_decide_eq_true hc18; omega
                              subst hw9
                              refine rp [4, 8] (k := ?_)
                              refine hJb0 _ _ ⟨rfl, au, ?_⟩
                              rw [hodd, show oddG t k x 12 wi si at_ n = ⟨t.frame, t.tens.set k (⟨x.unit, x.fns, x.queue, x.wins, []⟩ : Ten)⟩ by simp only [oddG, oddX, Int.reduceEq, reduceCtorEq, ↓reduceIte, List.append_nil]]
                              exact odd_done (by repeat (first | exact F1 | refine Fr.new ?_ _ | refine Fr.set ?_ (by omega) (by first | omega | (simp only [nxt_new, nxt_set]; omega)) _)) (by first | omega | (simp only [go_sem]; omega)) au (by omega) au ⟨.own (s.nxt + 1 + 1 + 1) 0 x.wins.length, .sl .nil [], rfl, .inr ⟨(s.nxt + 1 + 1 + 1), _, by simp, by omega, (by first | (exact au) | (simp only [List.map_set, List.map_append, List.map_cons, List.map_nil]; exact au))⟩, .inl ⟨.nil, rfl⟩⟩
                            · have hc := hc18
                              refine rs (k := rg [3, 4, 8, 10, 11, 63] (k := rc (ht := fun hc19 => ?_) (hf := fun hc19 => ?_)))
                              · have hc := hc19
                                have hwl2 : wi < x.wins.length := by have := of_decide_eq_true hc; omega
                                have hwi1 : ((wi : Int) < (x.wins.length : Int)) = True := eq_true (by omega)
                                obtain ⟨w, hwe⟩ : ∃ z_, x.wins[wi]'hwl2 = z_ := ⟨_, rfl⟩
                                have hxw : (x.wins.map Win.pv)[wi]? = some (.agg [.int .i64 (w).space, .int .i64 (w).virt, .int .i64 (w).phys, .int .i64 (w).cnt]) := by rw [map_get hwl2, hwe]; rfl
                                have hb7 := ibits_and_le n 7 (by decide)
                                obtain ⟨g7, hg7⟩ : ∃ y, ibits .and .i64 n 7 = y := ⟨_, rfl⟩
                                have hb7 : 0 ≤ g7 ∧ g7 ≤ 7 := hg7 ▸ hb7
                                have H := aj hwi1 (aj hxw (aj hg7 H))
                                refine rg [4, 8] (k := rB (k := ?_))
                                have hw9 : wv = 13 := by have := of_decide_eq_false hc1; have := of_decide_eq_false hc2; have := of_decide_eq_false hc3; have := of_decide_eq_false hc4; have := of_decide_eq_false hc5; have := of_decide_eq_false hc6; have := of_decide_eq_false hc7; have := of_decide_eq_false hc9; have := of_decide_eq_false hc11; have := of_decide_eq_false hc13; have := of_decide_eq_false hc15; have := of_decide_eq_false hc17; have := of_decide_eq_false hc18; omega
                                subst hw9
                                refine rp [4, 8] (k := ?_)
                                refine hJb0 _ _ ⟨rfl, au, ?_⟩
                                rw [hodd, show oddG t k x 13 wi si at_ n = ⟨t.frame, t.tens.set k (⟨x.unit, x.fns, x.queue, x.wins.set wi ⟨g7, w.virt, w.phys, w.cnt⟩, x.slts⟩ : Ten)⟩ by simp only [oddG, oddX, Int.reduceEq, reduceCtorEq, ↓reduceIte, List.append_nil, modF_lt hwl2 hwe, hg7]]
                                exact odd_done (by repeat (first | exact F1 | refine Fr.new ?_ _ | refine Fr.set ?_ (by omega) (by first | omega | (simp only [nxt_new, nxt_set]; omega)) _)) (by first | omega | (simp only [go_sem]; omega)) au (by omega) au ⟨.own (s.nxt + 1 + 1 + 1) 0 x.wins.length, .sl .clip [], rfl, .inr ⟨(s.nxt + 1 + 1 + 1), _, by simp, by omega, (by first | (exact au) | (simp only [List.map_set, List.map_append, List.map_cons, List.map_nil]; exact au))⟩, .inl ⟨.clip, by simp [hse]⟩⟩
                              · have hc := hc19
                                refine rk (k := rB (k := ?_))
                                have hw9 : wv = 13 := by have := of_decide_eq_false hc1; have := of_decide_eq_false hc2; have := of_decide_eq_false hc3; have := of_decide_eq_false hc4; have := of_decide_eq_false hc5; have := of_decide_eq_false hc6; have := of_decide_eq_false hc7; have := of_decide_eq_false hc9; have := of_decide_eq_false hc11; have := of_decide_eq_false hc13; have := of_decide_eq_false hc15; have := of_decide_eq_false hc17; have := of_decide_eq_false hc18; omega
                                subst hw9
                                refine rp [4, 8] (k := ?_)
                                refine hJb0 _ _ ⟨rfl, au, ?_⟩
                                rw [hodd, show oddG t k x 13 wi si at_ n = ⟨t.frame, t.tens.set k (⟨x.unit, x.fns, x.queue, x.wins, x.slts⟩ : Ten)⟩ by simp only [oddG, oddX, Int.reduceEq, reduceCtorEq, ↓reduceIte, List.append_nil, modF_ge (show x.wins.length ≤ wi by have := of_decide_eq_false hc19; first | omega | simp_all)]]
                                exact odd_done (by repeat (first | exact F1 | refine Fr.new ?_ _ | refine Fr.set ?_ (by omega) (by first | omega | (simp only [nxt_new, nxt_set]; omega)) _)) (by first | omega | (simp only [go_sem]; omega)) au (by omega) au ⟨.own (s.nxt + 1 + 1 + 1) 0 x.wins.length, .sl .clip [], rfl, .inr ⟨(s.nxt + 1 + 1 + 1), _, by simp, by omega, (by first | (exact au) | (simp only [List.map_set, List.map_append, List.map_cons, List.map_nil]; exact au))⟩, .inl ⟨.clip, by simp [hse]⟩⟩
set_option maxRecDepth 100000 in
theorem odd_ns {t : Tab} {m : Nat} (hm : m ≤ 1000) (ht : t.few m) {what at_ n : Int} (hwI : I64 what) (haI : I64 at_) (hnI : I64 n) {k : Nat} (hkw : withinI at_ 0 (t.tens.length - 1) = k) (hkl : k < t.tens.length) {x : Ten} (hxe : t.tens[k] = x) (hwe : x.wins = []) (hse : x.slts ≠ []) {s : St} : ACalls Try.prog 11 [t.pv, .int .i64 what, .int .i64 at_, .int .i64 n] s (fun r s' => r = (oddF t what at_ n).pv ∧ s' = s) := by
  refine go Try.func11 (k := fun hwf H => ?_)
  have hnt := ht.nt
  have hxm : x ∈ t.tens := by rw [← hxe]; exact List.getElem_mem _
  have hnw := ht.nw x hxm
  have hns := ht.ns x hxm
  have hte : t.tens ≠ [] := fun h => by rw [h] at hkl; simp at hkl
  have hxx : (t.tens.map Ten.pv)[k]? = some (.agg [.int .i64 (x).unit, .int .u32 (x).fns, .int .i64 (x).queue, .sl .unk ((x).wins.map Win.pv), .sl .unk ((x).slts.map Slt.pv)]) := by rw [map_get hkl, hxe]; rfl
  have hgs : ∀ X, ((t.tens.map Ten.pv).set k X)[k]? = some X := fun X => by rw [List.getElem?_set]; simp [hkl]
  have hwl : IntKind.i64.wrap ((t.tens.length : Int) - 1) = (t.tens.length : Int) - 1 := wrap_i64 (by omega)
  have htl0 : ((t.tens.length : Int) = 0) = False := eq_false (by omega)
  have hk2 : ((k : Int) < (t.tens.length : Int)) = True := eq_true (by omega)
  have H := aj hgs (aj hwl (aj hkw (aj hk2 (aj htl0 (aj hwe H)))))
  refine rs (k := rg [1, 2, 3, 4, 8] (k := rs (k := rr (k := rO (k := ro (pre := [_, _]) (k := ?_))))))
  refine RunO.appendFirst au au au Try.td22 (by rw [Try.zp47]; rfl) (isEls_none _ _) (isEls_map (f := Ten.pv) (fun a => ⟨rfl, by rw [Try.cz47]; rfl⟩) _) (by rw [Try.by47]; decide) (by rw [Try.by47]; simp; omega) (by simp only [aAppendFirst, List.map_eq_nil_iff, ne_eq, hte, not_false_eq_true, if_true, List.length_nil, Nat.zero_add, List.length_map, List.nil_append, go_sem]; rfl) ?_
  refine rh [1, 2, 3, 4, 8] (k := rs (k := rs (k := rg [1, 2, 3, 4, 8, 21] (k := rc (ht := fun hc0 => ?_) (hf := fun hc0 => ?_)))))
  · cases hc0
  · have hc := hc0
    refine rk (k := rs (k := rr (k := ro (pre := [_, _, _, _, _]) (k := rC (h := within_ (lo := 0) (hi := (t.tens.length : Int) - 1) (by decide) (by omega) (by omega)) (k := rh [1, 2, 3, 4, 8, 9] (k := rs (k := rg [1, 2, 3, 4, 8, 10] (k := rs (k := ?_)))))))))
    have H := aj hxx H
    refine rr (k := ro (pre := [_]) (k := rO (k := ro (pre := [_, _, _, _]) (k := ?_))))
    refine RunO.append au au au Try.td44 (by rw [Try.zp58]; rfl) (isEls_none _ _) (isEls_none _ _) (by rw [Try.by58]; decide) (by simp) (v := .sl .clip []) (by unfold aAppend; rw [if_pos rfl]) ?_
    refine rh [1, 2, 3, 4, 8, 10] (k := rs (k := rr (k := ro (pre := [_]) (k := rO (k := ro (pre := [_, _, _, _]) (k := ?_))))))
    refine RunO.appendFirst au au au Try.td45 (by rw [Try.zp49]; rfl) (isEls_none _ _) (isEls_map (f := Slt.pv) (fun a => ⟨rfl, by rw [Try.cz49]; rfl⟩) _) (by rw [Try.by49]; decide) (by rw [Try.by49]; simp; omega) (by simp only [aAppendFirst, List.map_eq_nil_iff, ne_eq, hse, not_false_eq_true, if_true, List.length_nil, Nat.zero_add, List.length_map, List.nil_append, go_sem]; rfl) ?_
    refine rh [1, 2, 3, 4, 8, 10] (k := rs (k := ?_))
    refine Run.abs (fun s1 => Fr s s1 ∧ s1.nxt = s.nxt + 1 + 1 + 1 + 1 ∧ s1.blk s.nxt = some (.row 24 [.agg [.int .i64 t.frame, .own (s.nxt + 1 + 1) 0 t.tens.length]]) ∧ s1.blk (s.nxt + 1) = some (.row 24 [.agg [.int .i64 0, .sl .nil []]]) ∧ s1.blk (s.nxt + 1 + 1) = some (.row 47 ((t.tens.map Ten.pv).set k (.agg [.int .i64 x.unit, .int .u32 x.fns, .int .i64 x.queue, .sl .clip [], .own (s.nxt + 1 + 1 + 1) 0 x.slts.length]))) ∧ s1.blk (s.nxt + 1 + 1 + 1) = some (.row 49 (x.slts.map Slt.pv))) ⟨by repeat (first | exact Fr.refl hwf | refine Fr.new ?_ _ | refine Fr.set ?_ (by omega) (by simp only [nxt_new, nxt_set]; omega) _), by simp only [go_sem], by simp only [go_sem, ↓reduceIte, Nat.reduceEqDiff, Nat.reduceAdd], by simp only [go_sem, ↓reduceIte, Nat.reduceEqDiff, Nat.reduceAdd], by simp only [go_sem, ↓reduceIte, Nat.reduceEqDiff, Nat.reduceAdd], by simp only [go_sem, ↓reduceIte, Nat.reduceEqDiff, Nat.reduceAdd]⟩ ?_
    rintro s1 ⟨F1, hn1, b4, b8, bA, bC⟩
    have hwi0 := withinI_bound (n := n) (lo := 0) (hi := 5) (by decide)
    have hsi0 := withinI_bound (n := n) (lo := 0) (hi := 2) (by decide)
    obtain ⟨wi, hwi⟩ : ∃ y : Nat, withinI n 0 5 = y := ⟨_, (Int.toNat_of_nonneg hwi0.1).symm⟩
    obtain ⟨si, hsi⟩ : ∃ y : Nat, withinI n 0 2 = y := ⟨_, (Int.toNat_of_nonneg hsi0.1).symm⟩
    have z0 : (s.nxt = s1.nxt) = False := eq_false (by omega)
    have z1 : (s.nxt + 1 = s1.nxt) = False := eq_false (by omega)
    have z2 : (s.nxt + 1 + 1 = s1.nxt) = False := eq_false (by omega)
    have z3 : (s.nxt + 1 + 1 + 1 = s1.nxt) = False := eq_false (by omega)
    have y0 : (s1.nxt = s.nxt) = False := eq_false (by omega)
    have y1 : (s1.nxt = s.nxt + 1) = False := eq_false (by omega)
    have y2 : (s1.nxt = s.nxt + 1 + 1) = False := eq_false (by omega)
    have y3 : (s1.nxt = s.nxt + 1 + 1 + 1) = False := eq_false (by omega)
    have H := aj b4 (aj b8 (aj bA (aj bC (aj hwi (aj hsi (aj z0 (aj z1 (aj z2 (aj z3 (aj y0 (aj y1 (aj y2 (aj y3 H)))))))))))))
    refine rr (k := ro (pre := [_]) (k := rC (h := within_ (lo := 0) (hi := 5) (by decide) (by decide) (by decide)) (k := ro (pre := [_]) (k := rC (h := within_ (lo := 0) (hi := 2) (by decide) (by decide) (by decide)) (k := rh [1, 2, 3, 4, 8, 10, 11, 12] (k := rs (k := rs (k := rr (k := ro (pre := [_]) (k := rC (h := within_ (lo := 0) (hi := 13) (by decide) (by decide) (by decide)) (k := ?_)))))))))))
    refine rl [2, 3, 4, 8, 10, 11, 12, 56] (k := ?_)
    refine Run.join (fun e s' => e = [(4, .ptr s.nxt 0 0), (8, .ptr (s.nxt + 1) 0 0)] ∧ s'.blk (s.nxt + 1) = some (.row 24 [.agg [.int .i64 0, .sl .nil []]]) ∧ OddR s s' (oddF t what at_ n)) ?_ ?_
    · rintro e s2 ⟨rfl, r0, hO⟩
      obtain ⟨A', els, r1, r2, r3, r4, r5⟩ := hO.row
      have H := aj r0 (aj r1 H)
      refine rs (k := rg [8] (k := rR (k := ?_)))
      exact Ret.pureF (r' := (oddF t what at_ n).pv) 7 (by simp only [Try.f11, go_sem, ↓reduceIte, r0, r1] <;> rfl) ((hO.set _).frz (by simp only [go_sem, ↓reduceIte]; exact r1)) (blw_tab _ _) hwf (hO.set _).fr.blk ⟨rfl, rfl⟩
    intro hJb0
    refine rb (k := rs (k := ?_))
    obtain ⟨wv, hwv⟩ : ∃ y, withinI what 0 13 = y := ⟨_, rfl⟩
    have hwb := withinI_bound (n := what) (lo := 0) (hi := 13) (by decide)
    have hodd := oddF_eq hkw hkl hxe hwv hwi hsi (at_ := at_)
    rw [hwv]
    rw [hwv] at hwb
    refine rg [2, 3, 4, 8, 10, 11, 12, 56, 73] (k := rc (ht := fun hc1 => ?_) (hf := fun hc1 => ?_))
    · have hc := hc1
      refine rg [4, 8] (k := rB (k := ?_))
      have hw9 : wv = 0 := by have h := of_decide_eq_true hc1; omega
      subst hw9
      refine rp [4, 8] (k := ?_)
      refine hJb0 _ _ ⟨rfl, au, ?_⟩
      rw [hodd, show oddG t k x 0 wi si at_ n = ⟨n, t.tens.set k (⟨x.unit, x.fns, x.queue, x.wins, x.slts⟩ : Ten)⟩ by simp only [oddG, oddX, Int.reduceEq, reduceCtorEq, ↓reduceIte, List.append_nil]]
      exact odd_done (by repeat (first | exact F1 | refine Fr.new ?_ _ | refine Fr.set ?_ (by omega) (by first | omega | (simp only [nxt_new, nxt_set]; omega)) _)) (by first | omega | (simp only [go_sem]; omega)) au (by omega) au ⟨.sl .clip [], .own (s.nxt + 1 + 1 + 1) 0 x.slts.length, rfl, .inl ⟨.clip, by simp [hwe]⟩, .inr ⟨(s.nxt + 1 + 1 + 1), _, by simp, by omega, (by first | (exact au) | (simp only [List.map_set, List.map_append, List.map_cons, List.map_nil]; exact au))⟩⟩
    · have hc := hc1
      refine rs (k := rg [2, 3, 4, 8, 10, 11, 12, 56, 77] (k := rc (ht := fun hc2 => ?_) (hf := fun hc2 => ?_)))
      · have hc := hc2
        refine rg [4, 8] (k := rB (k := ?_))
        have hw9 : wv = 1 := by have h := of_decide_eq_true hc2; omega
        subst hw9
        refine rp [4, 8] (k := ?_)
        refine hJb0 _ _ ⟨rfl, au, ?_⟩
        rw [hodd, show oddG t k x 1 wi si at_ n = ⟨t.frame, t.tens.set k (⟨n, x.fns, x.queue, x.wins, x.slts⟩ : Ten)⟩ by simp only [oddG, oddX, Int.reduceEq, reduceCtorEq, ↓reduceIte, List.append_nil]]
        exact odd_done (by repeat (first | exact F1 | refine Fr.new ?_ _ | refine Fr.set ?_ (by omega) (by first | omega | (simp only [nxt_new, nxt_set]; omega)) _)) (by first | omega | (simp only [go_sem]; omega)) au (by omega) au ⟨.sl .clip [], .own (s.nxt + 1 + 1 + 1) 0 x.slts.length, rfl, .inl ⟨.clip, by simp [hwe]⟩, .inr ⟨(s.nxt + 1 + 1 + 1), _, by simp, by omega, (by first | (exact au) | (simp only [List.map_set, List.map_append, List.map_cons, List.map_nil]; exact au))⟩⟩
      · have hc := hc2
        refine rs (k := rg [2, 3, 4, 8, 10, 11, 12, 56, 83] (k := rc (ht := fun hc3 => ?_) (hf := fun hc3 => ?_)))
        · have hc := hc3
          refine rg [4, 8] (k := rB (k := ?_))
          have hw9 : wv = 2 := by have h := of_decide_eq_true hc3; omega
          subst hw9
          refine rp [4, 8] (k := ?_)
          refine hJb0 _ _ ⟨rfl, au, ?_⟩
          rw [hodd, show oddG t k x 2 wi si at_ n = ⟨t.frame, t.tens.set k (⟨x.unit, x.fns, n, x.wins, x.slts⟩ : Ten)⟩ by simp only [oddG, oddX, Int.reduceEq, reduceCtorEq, ↓reduceIte, List.append_nil]]
          exact odd_done (by repeat (first | exact F1 | refine Fr.new ?_ _ | refine Fr.set ?_ (by omega) (by first | omega | (simp only [nxt_new, nxt_set]; omega)) _)) (by first | omega | (simp only [go_sem]; omega)) au (by omega) au ⟨.sl .clip [], .own (s.nxt + 1 + 1 + 1) 0 x.slts.length, rfl, .inl ⟨.clip, by simp [hwe]⟩, .inr ⟨(s.nxt + 1 + 1 + 1), _, by simp, by omega, (by first | (exact au) | (simp only [List.map_set, List.map_append, List.map_cons, List.map_nil]; exact au))⟩⟩
        · have hc := hc3
          refine rs (k := rg [2, 3, 4, 8, 10, 11, 12, 56, 89] (k := rc (ht := fun hc4 => ?_) (hf := fun hc4 => ?_)))
          · have hc := hc4
            refine rg [4, 8] (k := rB (k := ?_))
            have hw9 : wv = 3 := by have h := of_decide_eq_true hc4; omega
            subst hw9
            refine rp [4, 8] (k := ?_)
            refine hJb0 _ _ ⟨rfl, au, ?_⟩
            rw [hodd, show oddG t k x 3 wi si at_ n = ⟨t.frame, t.tens.set k (⟨x.unit, IntKind.u32.wrap n, x.queue, x.wins, x.slts⟩ : Ten)⟩ by simp only [oddG, oddX, Int.reduceEq, reduceCtorEq, ↓reduceIte, List.append_nil]]
            exact odd_done (by repeat (first | exact F1 | refine Fr.new ?_ _ | refine Fr.set ?_ (by omega) (by first | omega | (simp only [nxt_new, nxt_set]; omega)) _)) (by first | omega | (simp only [go_sem]; omega)) au (by omega) au ⟨.sl .clip [], .own (s.nxt + 1 + 1 + 1) 0 x.slts.length, rfl, .inl ⟨.clip, by simp [hwe]⟩, .inr ⟨(s.nxt + 1 + 1 + 1), _, by simp, by omega, (by first | (exact au) | (simp only [List.map_set, List.map_append, List.map_cons, List.map_nil]; exact au))⟩⟩
          · have hc := hc4
            refine rs (k := rg [2, 3, 4, 8, 10, 11, 12, 56, 96] (k := rc (ht := fun hc5 => ?_) (hf := fun hc5 => ?_)))
            · have hc := hc5
              refine rr (k := ro (pre := [_, _, _, _, _, _, _]) (k := rO (k := ?_)))
              refine RunO.appendOwn au au au Try.td45 (by rw [Try.zp49]; rfl) (isEls_map (f := Slt.pv) (fun a => ⟨rfl, by rw [Try.cz49]; rfl⟩) [⟨n, 72⟩]) (by rw [Try.by49]; decide) (by rw [Try.by49]; simp; omega) (v := .own s1.nxt 0 (x.slts.length + 1)) (s' := (s1.set (s.nxt + 1 + 1 + 1) none).new (.row 49 (x.slts.map Slt.pv ++ [.agg [.int .i64 n, .int .i64 72]]))) (by unfold aAppendOwn; rw [bC]; simp only [ne_eq, List.cons_ne_nil, not_false_eq_true, List.length_map, Nat.le_refl, and_self, if_true, List.length_cons, List.length_nil, Nat.zero_add]; rw [List.take_of_length_le (by rw [List.length_map]; exact Nat.le_refl _)]; rfl) ?_
              refine rh [4, 8] (k := rB (k := ?_))
              have hw9 : wv = 4 := by have h := of_decide_eq_true hc5; omega
              subst hw9
              refine rp [4, 8] (k := ?_)
              refine hJb0 _ _ ⟨rfl, au, ?_⟩
              rw [hodd, show oddG t k x 4 wi si at_ n = ⟨t.frame, t.tens.set k (⟨x.unit, x.fns, x.queue, x.wins, x.slts ++ [⟨n, 72⟩]⟩ : Ten)⟩ by simp only [oddG, oddX, Int.reduceEq, reduceCtorEq, ↓reduceIte, List.append_nil]]
              exact odd_done (by repeat (first | exact F1 | refine Fr.new ?_ _ | refine Fr.set ?_ (by omega) (by first | omega | (simp only [nxt_new, nxt_set]; omega)) _)) (by first | omega | (simp only [go_sem]; omega)) au (by omega) au ⟨.sl .clip [], .own s1.nxt 0 (x.slts.length + 1), rfl, .inl ⟨.clip, by simp [hwe]⟩, .inr ⟨s1.nxt, _, by simp, by omega, (by first | (exact au) | (simp only [List.map_set, List.map_append, List.map_cons, List.map_nil]; exact au))⟩⟩
            · have hc := hc5
              refine rs (k := rg [2, 3, 4, 8, 10, 11, 12, 56, 109] (k := rc (ht := fun hc6 => ?_) (hf := fun hc6 => ?_)))
              · have hc := hc6
                have hb0 := ibits_and_le n 3 (by decide)
                have hb1 := ibits_and_le at_ 1023 (by decide)
                have hb2 := ibits_and_le n 511 (by decide)
                have hb3 := ibits_and_le at_ 31 (by decide)
                obtain ⟨g0, hg0⟩ : ∃ y, ibits .and .i64 n 3 = y := ⟨_, rfl⟩
                obtain ⟨g1, hg1⟩ : ∃ y, ibits .and .i64 at_ 1023 = y := ⟨_, rfl⟩
                obtain ⟨g2, hg2⟩ : ∃ y, ibits .and .i64 n 511 = y := ⟨_, rfl⟩
                obtain ⟨g4, hg4⟩ : ∃ y, ibits .and .i64 at_ 31 = y := ⟨_, rfl⟩
                have hb0 : 0 ≤ g0 ∧ g0 ≤ 3 := hg0 ▸ hb0
                have hb1 : 0 ≤ g1 ∧ g1 ≤ 1023 := hg1 ▸ hb1
                have hb2 : 0 ≤ g2 ∧ g2 ≤ 511 := hg2 ▸ hb2
                have hb3 : 0 ≤ g4 ∧ g4 ≤ 31 := hg4 ▸ hb3
                have hg3 : IntKind.i64.wrap (1 + g4) = 1 + g4 := wrap_i64 (by omega)
                have H := aj hg0 (aj hg1 (aj hg2 (aj hg4 (aj hg3 H))))
                refine rr (k := ro (pre := [_, _, _, _, _, _, _, _, _, _, _, _, _, _, _]) (k := rO (k := ?_)))
                refine RunO.appendFirst au au au Try.td44 (by rw [Try.zp58]; rfl) (isEls_none _ _) (isEls_map (f := Win.pv) (fun a => ⟨rfl, by rw [Try.cz58]; rfl⟩) [⟨g0, g1, g2, 1 + g4⟩]) (by rw [Try.by58]; decide) (by rw [Try.by58]; simp) (v := .own s1.nxt 0 1) (s' := s1.new (.row 58 [.agg [.int .i64 g0, .int .i64 g1, .int .i64 g2, .int .i64 (1 + g4)]])) (by simp [aAppendFirst, Slt.pv, Win.pv]) ?_
                refine rh [4, 8] (k := rB (k := ?_))
                have hw9 : wv = 5 := by have h := of_decide_eq_true hc6; omega
                subst hw9
                refine rp [4, 8] (k := ?_)
                refine hJb0 _ _ ⟨rfl, au, ?_⟩
                rw [hodd, show oddG t k x 5 wi si at_ n = ⟨t.frame, t.tens.set k (⟨x.unit, x.fns, x.queue, x.wins ++ [⟨g0, g1, g2, 1 + g4⟩], x.slts⟩ : Ten)⟩ by simp only [oddG, oddX, Int.reduceEq, reduceCtorEq, ↓reduceIte, List.append_nil, hg0, hg1, hg2, hg4]]
                exact odd_done (by repeat (first | exact F1 | refine Fr.new ?_ _ | refine Fr.set ?_ (by omega) (by first | omega | (simp only [nxt_new, nxt_set]; omega)) _)) (by first | omega | (simp only [go_sem]; omega)) au (by omega) au ⟨.own s1.nxt 0 1, .own (s.nxt + 1 + 1 + 1) 0 x.slts.length, rfl, .inr ⟨s1.nxt, _, by simp [hwe], by omega, (by first | (exact au) | (simp only [List.map_set, List.map_append, List.map_cons, List.map_nil]; exact au))⟩, .inr ⟨(s.nxt + 1 + 1 + 1), _, by simp, by omega, (by first | (exact au) | (simp only [List.map_set, List.map_append, List.map_cons, List.map_nil]; exact au))⟩⟩
              · have hc := hc6
                refine rs (k := rg [3, 4, 8, 10, 11, 12, 56, 130] (k := rc (ht := fun hc7 => ?_) (hf := fun hc7 => ?_)))
                · have hc := hc7
                  refine rs (k := rg [3, 4, 8, 10, 11, 138] (k := rc (ht := fun hc8 => ?_) (hf := fun hc8 => ?_)))
                  · have hc := hc8
                    exfalso
                    have h := of_decide_eq_true hc
                    first | omega | (simp at h; omega)
                  · have hc := hc8
                    refine rk (k := rB (k := ?_))
                    have hw9 : wv = 6 := by have h := of_decide_eq_true hc7; omega
                    subst hw9
                    refine rp [4, 8] (k := ?_)
                    refine hJb0 _ _ ⟨rfl, au, ?_⟩
                    rw [hodd, show oddG t k x 6 wi si at_ n = ⟨t.frame, t.tens.set k (⟨x.unit, x.fns, x.queue, x.wins, x.slts⟩ : Ten)⟩ by simp only [oddG, oddX, Int.reduceEq, reduceCtorEq, ↓reduceIte, List.append_nil, modF_ge (show x.wins.length ≤ wi by have := of_decide_eq_false hc8; first | omega | simp_all)]]
                    exact odd_done (by repeat (first | exact F1 | refine Fr.new ?_ _ | refine Fr.set ?_ (by omega) (by first | omega | (simp only [nxt_new, nxt_set]; omega)) _)) (by first | omega | (simp only [go_sem]; omega)) au (by omega) au ⟨.sl .clip [], .own (s.nxt + 1 + 1 + 1) 0 x.slts.length, rfl, .inl ⟨.clip, by simp [hwe]⟩, .inr ⟨(s.nxt + 1 + 1 + 1), _, by simp, by omega, (by first | (exact au) | (simp only [List.map_set, List.map_append, List.map_cons, List.map_nil]; exact au))⟩⟩
                · have hc := hc7
                  refine rs (k := rg [3, 4, 8, 10, 11, 12, 56, 147] (k := rc (ht := fun hc9 => ?_) (hf := fun hc9 => ?_)))
                  · have hc := hc9
                    refine rs (k := rg [3, 4, 8, 10, 11, 155] (k := rc (ht := fun hc10 => ?_) (hf := fun hc10 => ?_)))
                    · have hc := hc10
                      exfalso
                      have h := of_decide_eq_true hc
                      first | omega | (simp at h; omega)
                    · have hc := hc10
                      refine rk (k := rB (k := ?_))
                      have hw9 : wv = 7 := by have h := of_decide_eq_true hc9; omega
                      subst hw9
                      refine rp [4, 8] (k := ?_)
                      refine hJb0 _ _ ⟨rfl, au, ?_⟩
                      rw [hodd, show oddG t k x 7 wi si at_ n = ⟨t.frame, t.tens.set k (⟨x.unit, x.fns, x.queue, x.wins, x.slts⟩ : Ten)⟩ by simp only [oddG, oddX, Int.reduceEq, reduceCtorEq, ↓reduceIte, List.append_nil, modF_ge (show x.wins.length ≤ wi by have := of_decide_eq_false hc10; first | omega | simp_all)]]
                      exact odd_done (by repeat (first | exact F1 | refine Fr.new ?_ _ | refine Fr.set ?_ (by omega) (by first | omega | (simp only [nxt_new, nxt_set]; omega)) _)) (by first | omega | (simp only [go_sem]; omega)) au (by omega) au ⟨.sl .clip [], .own (s.nxt + 1 + 1 + 1) 0 x.slts.length, rfl, .inl ⟨.clip, by simp [hwe]⟩, .inr ⟨(s.nxt + 1 + 1 + 1), _, by simp, by omega, (by first | (exact au) | (simp only [List.map_set, List.map_append, List.map_cons, List.map_nil]; exact au))⟩⟩
                  · have hc := hc9
                    refine rs (k := rg [3, 4, 8, 10, 11, 12, 56, 164] (k := rc (ht := fun hc11 => ?_) (hf := fun hc11 => ?_)))
                    · have hc := hc11
                      refine rs (k := rg [3, 4, 8, 10, 11, 172] (k := rc (ht := fun hc12 => ?_) (hf := fun hc12 => ?_)))
                      · have hc := hc12
                        exfalso
                        have h := of_decide_eq_true hc
                        first | omega | (simp at h; omega)
                      · have hc := hc12
                        refine rk (k := rB (k := ?_))
                        have hw9 : wv = 8 := by have h := of_decide_eq_true hc11; omega
                        subst hw9
                        refine rp [4, 8] (k := ?_)
                        refine hJb0 _ _ ⟨rfl, au, ?_⟩
                        rw [hodd, show oddG t k x 8 wi si at_ n = ⟨t.frame, t.tens.set k (⟨x.unit, x.fns, x.queue, x.wins, x.slts⟩ : Ten)⟩ by simp only [oddG, oddX, Int.reduceEq, reduceCtorEq, ↓reduceIte, List.append_nil, modF_ge (show x.wins.length ≤ wi by have := of_decide_eq_false hc12; first | omega | simp_all)]]
                        exact odd_done (by repeat (first | exact F1 | refine Fr.new ?_ _ | refine Fr.set ?_ (by omega) (by first | omega | (simp only [nxt_new, nxt_set]; omega)) _)) (by first | omega | (simp only [go_sem]; omega)) au (by omega) au ⟨.sl .clip [], .own (s.nxt + 1 + 1 + 1) 0 x.slts.length, rfl, .inl ⟨.clip, by simp [hwe]⟩, .inr ⟨(s.nxt + 1 + 1 + 1), _, by simp, by omega, (by first | (exact au) | (simp only [List.map_set, List.map_append, List.map_cons, List.map_nil]; exact au))⟩⟩
                    · have hc := hc11
                      refine rs (k := rg [3, 4, 8, 10, 11, 12, 56, 181] (k := rc (ht := fun hc13 => ?_) (hf := fun hc13 => ?_)))
                      · have hc := hc13
                        refine rs (k := rg [3, 4, 8, 10, 12, 189] (k := rc (ht := fun hc14 => ?_) (hf := fun hc14 => ?_)))
                        · have hc := hc14
                          have hsl2 : si < x.slts.length := by have := of_decide_eq_true hc; omega
                          have hsi1 : ((si : Int) < (x.slts.length : Int)) = True := eq_true (by omega)
                          obtain ⟨a, hae⟩ : ∃ z_, x.slts[si]'hsl2 = z_ := ⟨_, rfl⟩
                          have hxa : (x.slts.map Slt.pv)[si]? = some (.agg [.int .i64 (a).pos, .int .i64 (a).len]) := by rw [map_get hsl2, hae]; rfl
                          have H := aj hsi1 (aj hxa H)
                          refine rg [4, 8] (k := rB (k := ?_))
                          have hw9 : wv = 9 := by have h := of_decide_eq_true hc13; omega
                          subst hw9
                          refine rp [4, 8] (k := ?_)
                          refine hJb0 _ _ ⟨rfl, au, ?_⟩
                          rw [hodd, show oddG t k x 9 wi si at_ n = ⟨t.frame, t.tens.set k (⟨x.unit, x.fns, x.queue, x.wins, x.slts.set si ⟨n, a.len⟩⟩ : Ten)⟩ by simp only [oddG, oddX, Int.reduceEq, reduceCtorEq, ↓reduceIte, List.append_nil, modF_lt hsl2 hae]]
                          exact odd_done (by repeat (first | exact F1 | refine Fr.new ?_ _ | refine Fr.set ?_ (by omega) (by first | omega | (simp only [nxt_new, nxt_set]; omega)) _)) (by first | omega | (simp only [go_sem]; omega)) au (by omega) au ⟨.sl .clip [], .own (s.nxt + 1 + 1 + 1) 0 x.slts.length, rfl, .inl ⟨.clip, by simp [hwe]⟩, .inr ⟨(s.nxt + 1 + 1 + 1), _, by simp, by omega, (by first | (exact au) | (simp only [List.map_set, List.map_append, List.map_cons, List.map_nil]; exact au))⟩⟩
                        · have hc := hc14
                          refine rk (k := rB (k := ?_))
                          have hw9 : wv = 9 := by have h := of_decide_eq_true hc13; omega
                          subst hw9
                          refine rp [4, 8] (k := ?_)
                          refine hJb0 _ _ ⟨rfl, au, ?_⟩
                          rw [hodd, show oddG t k x 9 wi si at_ n = ⟨t.frame, t.tens.set k (⟨x.unit, x.fns, x.queue, x.wins, x.slts⟩ : Ten)⟩ by simp only [oddG, oddX, Int.reduceEq, reduceCtorEq, ↓reduceIte, List.append_nil, modF_ge (show x.slts.length ≤ si by have := of_decide_eq_false hc14; first | omega | simp_all)]]
                          exact odd_done (by repeat (first | exact F1 | refine Fr.new ?_ _ | refine Fr.set ?_ (by omega) (by first | omega | (simp only [nxt_new, nxt_set]; omega)) _)) (by first | omega | (simp only [go_sem]; omega)) au (by omega) au ⟨.sl .clip [], .own (s.nxt + 1 + 1 + 1) 0 x.slts.length, rfl, .inl ⟨.clip, by simp [hwe]⟩, .inr ⟨(s.nxt + 1 + 1 + 1), _, by simp, by omega, (by first | (exact au) | (simp only [List.map_set, List.map_append, List.map_cons, List.map_nil]; exact au))⟩⟩
                      · have hc := hc13
                        refine rs (k := rg [3, 4, 8, 10, 11, 12, 56, 198] (k := rc (ht := fun hc15 => ?_) (hf := fun hc15 => ?_)))
                        · have hc := hc15
                          refine rs (k := rg [3, 4, 8, 10, 12, 206] (k := rc (ht := fun hc16 => ?_) (hf := fun hc16 => ?_)))
                          · have hc := hc16
                            have hsl2 : si < x.slts.length := by have := of_decide_eq_true hc; omega
                            have hsi1 : ((si : Int) < (x.slts.length : Int)) = True := eq_true (by omega)
                            obtain ⟨a, hae⟩ : ∃ z_, x.slts[si]'hsl2 = z_ := ⟨_, rfl⟩
                            have hxa : (x.slts.map Slt.pv)[si]? = some (.agg [.int .i64 (a).pos, .int .i64 (a).len]) := by rw [map_get hsl2, hae]; rfl
                            have H := aj hsi1 (aj hxa H)
                            refine rg [4, 8] (k := rB (k := ?_))
                            have hw9 : wv = 10 := by have h := of_decide_eq_true hc15; omega
                            subst hw9
                            refine rp [4, 8] (k := ?_)
                            refine hJb0 _ _ ⟨rfl, au, ?_⟩
                            rw [hodd, show oddG t k x 10 wi si at_ n = ⟨t.frame, t.tens.set k (⟨x.unit, x.fns, x.queue, x.wins, x.slts.set si ⟨a.pos, n⟩⟩ : Ten)⟩ by simp only [oddG, oddX, Int.reduceEq, reduceCtorEq, ↓reduceIte, List.append_nil, modF_lt hsl2 hae]]
                            exact odd_done (by repeat (first | exact F1 | refine Fr.new ?_ _ | refine Fr.set ?_ (by omega) (by first | omega | (simp only [nxt_new, nxt_set]; omega)) _)) (by first | omega | (simp only [go_sem]; omega)) au (by omega) au ⟨.sl .clip [], .own (s.nxt + 1 + 1 + 1) 0 x.slts.length, rfl, .inl ⟨.clip, by simp [hwe]⟩, .inr ⟨(s.nxt + 1 + 1 + 1), _, by simp, by omega, (by first | (exact au) | (simp only [List.map_set, List.map_append, List.map_cons, List.map_nil]; exact au))⟩⟩
                          · have hc := hc16
                            refine rk (k := rB (k := ?_))
                            have hw9 : wv = 10 := by have h := of_decide_eq_true hc15; omega
                            subst hw9
                            refine rp [4, 8] (k := ?_)
                            refine hJb0 _ _ ⟨rfl, au, ?_⟩
                            rw [hodd, show oddG t k x 10 wi si at_ n = ⟨t.frame, t.tens.set k (⟨x.unit, x.fns, x.queue, x.wins, x.slts⟩ : Ten)⟩ by simp only [oddG, oddX, Int.reduceEq, reduceCtorEq, ↓reduceIte, List.append_nil, modF_ge (show x.slts.length ≤ si by have := of_decide_eq_false hc16; first | omega | simp_all)]]
                            exact odd_done (by repeat (first | exact F1 | refine Fr.new ?_ _ | refine Fr.set ?_ (by omega) (by first | omega | (simp only [nxt_new, nxt_set]; omega)) _)) (by first | omega | (simp only [go_sem]; omega)) au (by omega) au ⟨.sl .clip [], .own (s.nxt + 1 + 1 + 1) 0 x.slts.length, rfl, .inl ⟨.clip, by simp [hwe]⟩, .inr ⟨(s.nxt + 1 + 1 + 1), _, by simp, by omega, (by first | (exact au) | (simp only [List.map_set, List.map_append, List.map_cons, List.map_nil]; exact au))⟩⟩
                        · have hc := hc15
                          refine rs (k := rg [3, 4, 8, 10, 11, 56, 215] (k := rc (ht := fun hc17 => ?_) (hf := fun hc17 => ?_)))
                          · have hc := hc17
                            refine Run.drawCut 6 [] Try.mixed (by kernel_rfl) (by kernel_rfl) ?_
                            refine DetC.all au ?_
                            refine RunO.appendOwn au au au Try.td22 (by rw [Try.zp47]; rfl) (fun p hp => by rw [List.mem_singleton.1 hp]; exact ⟨rfl, by rw [Try.cz47]; rfl⟩) (by rw [Try.by47]; decide) (by rw [Try.by47]; simp; omega) (v := .own s1.nxt 0 (t.tens.length + 1)) (s' := (s1.set (s.nxt + 1 + 1) none).new (.row 47 ((t.tens.map Ten.pv).set k (.agg [.int .i64 x.unit, .int .u32 x.fns, .int .i64 x.queue, .sl .clip [], .own (s.nxt + 1 + 1 + 1) 0 x.slts.length]) ++ [.agg [.int .i64 x.unit, .int .u32 x.fns, .int .i64 x.queue, .sl .clip [], .own (s.nxt + 1 + 1 + 1) 0 x.slts.length]]))) (by unfold aAppendOwn; rw [bA]; simp only [ne_eq, List.cons_ne_nil, not_false_eq_true, List.length_set, List.length_map, Nat.le_refl, and_self, if_true, List.length_cons, List.length_nil, Nat.zero_add]; rw [List.take_of_length_le (by simp)]) ?_
                            refine rh [4, 8] (k := rB (k := ?_))
                            have hw9 : wv = 11 := by have h := of_decide_eq_true hc17; omega
                            subst hw9
                            refine rp [4, 8] (k := ?_)
                            refine hJb0 _ _ ⟨rfl, au, ?_⟩
                            rw [hodd, show oddG t k x 11 wi si at_ n = ⟨t.frame, t.tens.set k (⟨x.unit, x.fns, x.queue, x.wins, x.slts⟩ : Ten) ++ [(⟨x.unit, x.fns, x.queue, x.wins, x.slts⟩ : Ten)]⟩ by simp only [oddG, oddX, Int.reduceEq, reduceCtorEq, ↓reduceIte, List.append_nil]]
                            exact odd_app (by repeat (first | exact F1 | refine Fr.new ?_ _ | refine Fr.set ?_ (by omega) (by first | omega | (simp only [nxt_new, nxt_set]; omega)) _)) (by first | omega | (simp only [go_sem]; omega)) au (by omega) au ⟨.sl .clip [], .own (s.nxt + 1 + 1 + 1) 0 x.slts.length, rfl, .inl ⟨.clip, by simp [hwe]⟩, .inr ⟨(s.nxt + 1 + 1 + 1), _, by simp, by omega, (by first | (exact au) | (simp only [List.map_set, List.map_append, List.map_cons, List.map_nil]; exact au))⟩⟩
                          · have hc := hc17
                            refine rs (k := rg [3, 4, 8, 10, 11, 225] (k := rc (ht := fun hc18 => ?_) (hf := fun hc18 => ?_)))
                            · have hc := hc18
                              refine rg [4, 8] (k := rB (k := ?_))
                              have hw9 : wv = 12 := by have h := of_decide_eq_true hc18; omega
                              subst hw9
                              refine rp [4, 8] (k := ?_)
                              refine hJb0 _ _ ⟨rfl, au, ?_⟩
                              rw [hodd, show oddG t k x 12 wi si at_ n = ⟨t.frame, t.tens.set k (⟨x.unit, x.fns, x.queue, x.wins, []⟩ : Ten)⟩ by simp only [oddG, oddX, Int.reduceEq, reduceCtorEq, ↓reduceIte, List.append_nil]]
                              exact odd_done (by repeat (first | exact F1 | refine Fr.new ?_ _ | refine Fr.set ?_ (by omega) (by first | omega | (simp only [nxt_new, nxt_set]; omega)) _)) (by first | omega | (simp only [go_sem]; omega)) au (by omega) au ⟨.sl .clip [], .sl .nil [], rfl, .inl ⟨.clip, by simp [hwe]⟩, .inl ⟨.nil, rfl⟩⟩
                            · have hc := hc18
                              refine rs (k := rg [3, 4, 8, 10, 11, 63] (k := rc (ht := fun hc19 => ?_) (hf := fun hc19 => ?_)))
                              · have hc := hc19
                                exfalso
                                have h := of_decide_eq_true hc
                                first | omega | (simp at h; omega)
                              · have hc := hc19
                                refine rk (k := rB (k := ?_))
                                have hw9 : wv = 13 := by have := of_decide_eq_false hc1; have := of_decide_eq_false hc2; have := of_decide_eq_false hc3; have := of_decide_eq_false hc4; have := of_decide_eq_false hc5; have := of_decide_eq_false hc6; have := of_decide_eq_false hc7; have := of_decide_eq_false hc9; have := of_decide_eq_false hc11; have := of_decide_eq_false hc13; have := of_decide_eq_false hc15; have := of_decide_eq_false hc17; have := of_decide_eq_false hc18; omega
                                subst hw9
                                refine rp [4, 8] (k := ?_)
                                refine hJb0 _ _ ⟨rfl, au, ?_⟩
                                rw [hodd, show oddG t k x 13 wi si at_ n = ⟨t.frame, t.tens.set k (⟨x.unit, x.fns, x.queue, x.wins, x.slts⟩ : Ten)⟩ by simp only [oddG, oddX, Int.reduceEq, reduceCtorEq, ↓reduceIte, List.append_nil, modF_ge (show x.wins.length ≤ wi by have := of_decide_eq_false hc19; first | omega | simp_all)]]
                                exact odd_done (by repeat (first | exact F1 | refine Fr.new ?_ _ | refine Fr.set ?_ (by omega) (by first | omega | (simp only [nxt_new, nxt_set]; omega)) _)) (by first | omega | (simp only [go_sem]; omega)) au (by omega) au ⟨.sl .clip [], .own (s.nxt + 1 + 1 + 1) 0 x.slts.length, rfl, .inl ⟨.clip, by simp [hwe]⟩, .inr ⟨(s.nxt + 1 + 1 + 1), _, by simp, by omega, (by first | (exact au) | (simp only [List.map_set, List.map_append, List.map_cons, List.map_nil]; exact au))⟩⟩
set_option maxRecDepth 100000 in
theorem odd_nn {t : Tab} {m : Nat} (hm : m ≤ 1000) (ht : t.few m) {what at_ n : Int} (hwI : I64 what) (haI : I64 at_) (hnI : I64 n) {k : Nat} (hkw : withinI at_ 0 (t.tens.length - 1) = k) (hkl : k < t.tens.length) {x : Ten} (hxe : t.tens[k] = x) (hwe : x.wins = []) (hse : x.slts = []) {s : St} : ACalls Try.prog 11 [t.pv, .int .i64 what, .int .i64 at_, .int .i64 n] s (fun r s' => r = (oddF t what at_ n).pv ∧ s' = s) := by
  refine go Try.func11 (k := fun hwf H => ?_)
  have hnt := ht.nt
  have hxm : x ∈ t.tens := by rw [← hxe]; exact List.getElem_mem _
  have hnw := ht.nw x hxm
  have hns := ht.ns x hxm
  have hte : t.tens ≠ [] := fun h => by rw [h] at hkl; simp at hkl
  have hxx : (t.tens.map Ten.pv)[k]? = some (.agg [.int .i64 (x).unit, .int .u32 (x).fns, .int .i64 (x).queue, .sl .unk ((x).wins.map Win.pv), .sl .unk ((x).slts.map Slt.pv)]) := by rw [map_get hkl, hxe]; rfl
  have hgs : ∀ X, ((t.tens.map Ten.pv).set k X)[k]? = some X := fun X => by rw [List.getElem?_set]; simp [hkl]
  have hwl : IntKind.i64.wrap ((t.tens.length : Int) - 1) = (t.tens.length : Int) - 1 := wrap_i64 (by omega)
  have htl0 : ((t.tens.length : Int) = 0) = False := eq_false (by omega)
  have hk2 : ((k : Int) < (t.tens.length : Int)) = True := eq_true (by omega)
  have H := aj hgs (aj hwl (aj hkw (aj hk2 (aj htl0 (aj hwe (aj hse H))))))
  refine rs (k := rg [1, 2, 3, 4, 8] (k := rs (k := rr (k := rO (k := ro (pre := [_, _]) (k := ?_))))))
  refine RunO.appendFirst au au au Try.td22 (by rw [Try.zp47]; rfl) (isEls_none _ _) (isEls_map (f := Ten.pv) (fun a => ⟨rfl, by rw [Try.cz47]; rfl⟩) _) (by rw [Try.by47]; decide) (by rw [Try.by47]; simp; omega) (by simp only [aAppendFirst, List.map_eq_nil_iff, ne_eq, hte, not_false_eq_true, if_true, List.length_nil, Nat.zero_add, List.length_map, List.nil_append, go_sem]; rfl) ?_
  refine rh [1, 2, 3, 4, 8] (k := rs (k := rs (k := rg [1, 2, 3, 4, 8, 21] (k := rc (ht := fun hc0 => ?_) (hf := fun hc0 => ?_)))))
  · cases hc0
  · have hc := hc0
    refine rk (k := rs (k := rr (k := ro (pre := [_, _, _, _, _]) (k := rC (h := within_ (lo := 0) (hi := (t.tens.length : Int) - 1) (by decide) (by omega) (by omega)) (k := rh [1, 2, 3, 4, 8, 9] (k := rs (k := rg [1, 2, 3, 4, 8, 10] (k := rs (k := ?_)))))))))
    have H := aj hxx H
    refine rr (k := ro (pre := [_]) (k := rO (k := ro (pre := [_, _, _, _]) (k := ?_))))
    refine RunO.append au au au Try.td44 (by rw [Try.zp58]; rfl) (isEls_none _ _) (isEls_none _ _) (by rw [Try.by58]; decide) (by simp) (v := .sl .clip []) (by unfold aAppend; rw [if_pos rfl]) ?_
    refine rh [1, 2, 3, 4, 8, 10] (k := rs (k := rr (k := ro (pre := [_]) (k := rO (k := ro (pre := [_, _, _, _]) (k := ?_))))))
    refine RunO.append au au au Try.td45 (by rw [Try.zp49]; rfl) (isEls_none _ _) (isEls_none _ _) (by rw [Try.by49]; decide) (by simp) (v := .sl .clip []) (by unfold aAppend; rw [if_pos rfl]) ?_
    refine rh [1, 2, 3, 4, 8, 10] (k := rs (k := ?_))
    refine Run.abs (fun s1 => Fr s s1 ∧ s1.nxt = s.nxt + 1 + 1 + 1 ∧ s1.blk s.nxt = some (.row 24 [.agg [.int .i64 t.frame, .own (s.nxt + 1 + 1) 0 t.tens.length]]) ∧ s1.blk (s.nxt + 1) = some (.row 24 [.agg [.int .i64 0, .sl .nil []]]) ∧ s1.blk (s.nxt + 1 + 1) = some (.row 47 ((t.tens.map Ten.pv).set k (.agg [.int .i64 x.unit, .int .u32 x.fns, .int .i64 x.queue, .sl .clip [], .sl .clip []])))) ⟨by repeat (first | exact Fr.refl hwf | refine Fr.new ?_ _ | refine Fr.set ?_ (by omega) (by simp only [nxt_new, nxt_set]; omega) _), by simp only [go_sem], by simp only [go_sem, ↓reduceIte, Nat.reduceEqDiff, Nat.reduceAdd], by simp only [go_sem, ↓reduceIte, Nat.reduceEqDiff, Nat.reduceAdd], by simp only [go_sem, ↓reduceIte, Nat.reduceEqDiff, Nat.reduceAdd]⟩ ?_
    rintro s1 ⟨F1, hn1, b4, b8, bA⟩
    have hwi0 := withinI_bound (n := n) (lo := 0) (hi := 5) (by decide)
    have hsi0 := withinI_bound (n := n) (lo := 0) (hi := 2) (by decide)
    obtain ⟨wi, hwi⟩ : ∃ y : Nat, withinI n 0 5 = y := ⟨_, (Int.toNat_of_nonneg hwi0.1).symm⟩
    obtain ⟨si, hsi⟩ : ∃ y : Nat, withinI n 0 2 = y := ⟨_, (Int.toNat_of_nonneg hsi0.1).symm⟩
    have z0 : (s.nxt = s1.nxt) = False := eq_false (by omega)
    have z1 : (s.nxt + 1 = s1.nxt) = False := eq_false (by omega)
    have z2 : (s.nxt + 1 + 1 = s1.nxt) = False := eq_false (by omega)
    have y0 : (s1.nxt = s.nxt) = False := eq_false (by omega)
    have y1 : (s1.nxt = s.nxt + 1) = False := eq_false (by omega)
    have y2 : (s1.nxt = s.nxt + 1 + 1) = False := eq_false (by omega)
    have H := aj b4 (aj b8 (aj bA (aj hwi (aj hsi (aj z0 (aj z1 (aj z2 (aj y0 (aj y1 (aj y2 H))))))))))
    refine rr (k := ro (pre := [_]) (k := rC (h := within_ (lo := 0) (hi := 5) (by decide) (by decide) (by decide)) (k := ro (pre := [_]) (k := rC (h := within_ (lo := 0) (hi := 2) (by decide) (by decide) (by decide)) (k := rh [1, 2, 3, 4, 8, 10, 11, 12] (k := rs (k := rs (k := rr (k := ro (pre := [_]) (k := rC (h := within_ (lo := 0) (hi := 13) (by decide) (by decide) (by decide)) (k := ?_)))))))))))
    refine rl [2, 3, 4, 8, 10, 11, 12, 56] (k := ?_)
    refine Run.join (fun e s' => e = [(4, .ptr s.nxt 0 0), (8, .ptr (s.nxt + 1) 0 0)] ∧ s'.blk (s.nxt + 1) = some (.row 24 [.agg [.int .i64 0, .sl .nil []]]) ∧ OddR s s' (oddF t what at_ n)) ?_ ?_
    · rintro e s2 ⟨rfl, r0, hO⟩
      obtain ⟨A', els, r1, r2, r3, r4, r5⟩ := hO.row
      have H := aj r0 (aj r1 H)
      refine rs (k := rg [8] (k := rR (k := ?_)))
      exact Ret.pureF (r' := (oddF t what at_ n).pv) 7 (by simp only [Try.f11, go_sem, ↓reduceIte, r0, r1] <;> rfl) ((hO.set _).frz (by simp only [go_sem, ↓reduceIte]; exact r1)) (blw_tab _ _) hwf (hO.set _).fr.blk ⟨rfl, rfl⟩
    intro hJb0
    refine rb (k := rs (k := ?_))
    obtain ⟨wv, hwv⟩ : ∃ y, withinI what 0 13 = y := ⟨_, rfl⟩
    have hwb := withinI_bound (n := what) (lo := 0) (hi := 13) (by decide)
    have hodd := oddF_eq hkw hkl hxe hwv hwi hsi (at_ := at_)
    rw [hwv]
    rw [hwv] at hwb
    refine rg [2, 3, 4, 8, 10, 11, 12, 56, 73] (k := rc (ht := fun hc1 => ?_) (hf := fun hc1 => ?_))
    · have hc := hc1
      refine rg [4, 8] (k := rB (k := ?_))
      have hw9 : wv = 0 := by have h := of_decide_eq_true hc1; omega
      subst hw9
      refine rp [4, 8] (k := ?_)
      refine hJb0 _ _ ⟨rfl, au, ?_⟩
      rw [hodd, show oddG t k x 0 wi si at_ n = ⟨n, t.tens.set k (⟨x.unit, x.fns, x.queue, x.wins, x.slts⟩ : Ten)⟩ by simp only [oddG, oddX, Int.reduceEq, reduceCtorEq, ↓reduceIte, List.append_nil]]
      exact odd_done (by repeat (first | exact F1 | refine Fr.new ?_ _ | refine Fr.set ?_ (by omega) (by first | omega | (simp only [nxt_new, nxt_set]; omega)) _)) (by first | omega | (simp only [go_sem]; omega)) au (by omega) au ⟨.sl .clip [], .sl .clip [], rfl, .inl ⟨.clip, by simp [hwe]⟩, .inl ⟨.clip, by simp [hse]⟩⟩
    · have hc := hc1
      refine rs (k := rg [2, 3, 4, 8, 10, 11, 12, 56, 77] (k := rc (ht := fun hc2 => ?_) (hf := fun hc2 => ?_)))
      · have hc := hc2
        refine rg [4, 8] (k := rB (k := ?_))
        have hw9 : wv = 1 := by have h := of_decide_eq_true hc2; omega
        subst hw9
        refine rp [4, 8] (k := ?_)
        refine hJb0 _ _ ⟨rfl, au, ?_⟩
        rw [hodd, show oddG t k x 1 wi si at_ n = ⟨t.frame, t.tens.set k (⟨n, x.fns, x.queue, x.wins, x.slts⟩ : Ten)⟩ by simp only [oddG, oddX, Int.reduceEq, reduceCtorEq, ↓reduceIte, List.append_nil]]
        exact odd_done (by repeat (first | exact F1 | refine Fr.new ?_ _ | refine Fr.set ?_ (by omega) (by first | omega | (simp only [nxt_new, nxt_set]; omega)) _)) (by first | omega | (simp only [go_sem]; omega)) au (by omega) au ⟨.sl .clip [], .sl .clip [], rfl, .inl ⟨.clip, by simp [hwe]⟩, .inl ⟨.clip, by simp [hse]⟩⟩
      · have hc := hc2
        refine rs (k := rg [2, 3, 4, 8, 10, 11, 12, 56, 83] (k := rc (ht := fun hc3 => ?_) (hf := fun hc3 => ?_)))
        · have hc := hc3
          refine rg [4, 8] (k := rB (k := ?_))
          have hw9 : wv = 2 := by have h := of_decide_eq_true hc3; omega
          subst hw9
          refine rp [4, 8] (k := ?_)
          refine hJb0 _ _ ⟨rfl, au, ?_⟩
          rw [hodd, show oddG t k x 2 wi si at_ n = ⟨t.frame, t.tens.set k (⟨x.unit, x.fns, n, x.wins, x.slts⟩ : Ten)⟩ by simp only [oddG, oddX, Int.reduceEq, reduceCtorEq, ↓reduceIte, List.append_nil]]
          exact odd_done (by repeat (first | exact F1 | refine Fr.new ?_ _ | refine Fr.set ?_ (by omega) (by first | omega | (simp only [nxt_new, nxt_set]; omega)) _)) (by first | omega | (simp only [go_sem]; omega)) au (by omega) au ⟨.sl .clip [], .sl .clip [], rfl, .inl ⟨.clip, by simp [hwe]⟩, .inl ⟨.clip, by simp [hse]⟩⟩
        · have hc := hc3
          refine rs (k := rg [2, 3, 4, 8, 10, 11, 12, 56, 89] (k := rc (ht := fun hc4 => ?_) (hf := fun hc4 => ?_)))
          · have hc := hc4
            refine rg [4, 8] (k := rB (k := ?_))
            have hw9 : wv = 3 := by have h := of_decide_eq_true hc4; omega
            subst hw9
            refine rp [4, 8] (k := ?_)
            refine hJb0 _ _ ⟨rfl, au, ?_⟩
            rw [hodd, show oddG t k x 3 wi si at_ n = ⟨t.frame, t.tens.set k (⟨x.unit, IntKind.u32.wrap n, x.queue, x.wins, x.slts⟩ : Ten)⟩ by simp only [oddG, oddX, Int.reduceEq, reduceCtorEq, ↓reduceIte, List.append_nil]]
            exact odd_done (by repeat (first | exact F1 | refine Fr.new ?_ _ | refine Fr.set ?_ (by omega) (by first | omega | (simp only [nxt_new, nxt_set]; omega)) _)) (by first | omega | (simp only [go_sem]; omega)) au (by omega) au ⟨.sl .clip [], .sl .clip [], rfl, .inl ⟨.clip, by simp [hwe]⟩, .inl ⟨.clip, by simp [hse]⟩⟩
          · have hc := hc4
            refine rs (k := rg [2, 3, 4, 8, 10, 11, 12, 56, 96] (k := rc (ht := fun hc5 => ?_) (hf := fun hc5 => ?_)))
            · have hc := hc5
              refine rr (k := ro (pre := [_, _, _, _, _, _, _]) (k := rO (k := ?_)))
              refine RunO.appendFirst au au au Try.td45 (by rw [Try.zp49]; rfl) (isEls_none _ _) (isEls_map (f := Slt.pv) (fun a => ⟨rfl, by rw [Try.cz49]; rfl⟩) [⟨n, 72⟩]) (by rw [Try.by49]; decide) (by rw [Try.by49]; simp) (v := .own s1.nxt 0 1) (s' := s1.new (.row 49 [.agg [.int .i64 n, .int .i64 72]])) (by simp [aAppendFirst, Slt.pv, Win.pv]) ?_
              refine rh [4, 8] (k := rB (k := ?_))
              have hw9 : wv = 4 := by have h := of_decide_eq_true hc5; omega
              subst hw9
              refine rp [4, 8] (k := ?_)
              refine hJb0 _ _ ⟨rfl, au, ?_⟩
              rw [hodd, show oddG t k x 4 wi si at_ n = ⟨t.frame, t.tens.set k (⟨x.unit, x.fns, x.queue, x.wins, x.slts ++ [⟨n, 72⟩]⟩ : Ten)⟩ by simp only [oddG, oddX, Int.reduceEq, reduceCtorEq, ↓reduceIte, List.append_nil]]
              exact odd_done (by repeat (first | exact F1 | refine Fr.new ?_ _ | refine Fr.set ?_ (by omega) (by first | omega | (simp only [nxt_new, nxt_set]; omega)) _)) (by first | omega | (simp only [go_sem]; omega)) au (by omega) au ⟨.sl .clip [], .own s1.nxt 0 1, rfl, .inl ⟨.clip, by simp [hwe]⟩, .inr ⟨s1.nxt, _, by simp [hse], by omega, (by first | (exact au) | (simp only [List.map_set, List.map_append, List.map_cons, List.map_nil]; exact au))⟩⟩
            · have hc := hc5
              refine rs (k := rg [2, 3, 4, 8, 10, 11, 12, 56, 109] (k := rc (ht := fun hc6 => ?_) (hf := fun hc6 => ?_)))
              · have hc := hc6
                have hb0 := ibits_and_le n 3 (by decide)
                have hb1 := ibits_and_le at_ 1023 (by decide)
                have hb2 := ibits_and_le n 511 (by decide)
                have hb3 := ibits_and_le at_ 31 (by decide)
                obtain ⟨g0, hg0⟩ : ∃ y, ibits .and .i64 n 3 = y := ⟨_, rfl⟩
                obtain ⟨g1, hg1⟩ : ∃ y, ibits .and .i64 at_ 1023 = y := ⟨_, rfl⟩
                obtain ⟨g2, hg2⟩ : ∃ y, ibits .and .i64 n 511 = y := ⟨_, rfl⟩
                obtain ⟨g4, hg4⟩ : ∃ y, ibits .and .i64 at_ 31 = y := ⟨_, rfl⟩
                have hb0 : 0 ≤ g0 ∧ g0 ≤ 3 := hg0 ▸ hb0
                have hb1 : 0 ≤ g1 ∧ g1 ≤ 1023 := hg1 ▸ hb1
                have hb2 : 0 ≤ g2 ∧ g2 ≤ 511 := hg2 ▸ hb2
                have hb3 : 0 ≤ g4 ∧ g4 ≤ 31 := hg4 ▸ hb3
                have hg3 : IntKind.i64.wrap (1 + g4) = 1 + g4 := wrap_i64 (by omega)
                have H := aj hg0 (aj hg1 (aj hg2 (aj hg4 (aj hg3 H))))
                refine rr (k := ro (pre := [_, _, _, _, _, _, _, _, _, _, _, _, _, _, _]) (k := rO (k := ?_)))
                refine RunO.appendFirst au au au Try.td44 (by rw [Try.zp58]; rfl) (isEls_none _ _) (isEls_map (f := Win.pv) (fun a => ⟨rfl, by rw [Try.cz58]; rfl⟩) [⟨g0, g1, g2, 1 + g4⟩]) (by rw [Try.by58]; decide) (by rw [Try.by58]; simp) (v := .own s1.nxt 0 1) (s' := s1.new (.row 58 [.agg [.int .i64 g0, .int .i64 g1, .int .i64 g2, .int .i64 (1 + g4)]])) (by simp [aAppendFirst, Slt.pv, Win.pv]) ?_
                refine rh [4, 8] (k := rB (k := ?_))
                have hw9 : wv = 5 := by have h := of_decide_eq_true hc6; omega
                subst hw9
                refine rp [4, 8] (k := ?_)
                refine hJb0 _ _ ⟨rfl, au, ?_⟩
                rw [hodd, show oddG t k x 5 wi si at_ n = ⟨t.frame, t.tens.set k (⟨x.unit, x.fns, x.queue, x.wins ++ [⟨g0, g1, g2, 1 + g4⟩], x.slts⟩ : Ten)⟩ by simp only [oddG, oddX, Int.reduceEq, reduceCtorEq, ↓reduceIte, List.append_nil, hg0, hg1, hg2, hg4]]
                exact odd_done (by repeat (first | exact F1 | refine Fr.new ?_ _ | refine Fr.set ?_ (by omega) (by first | omega | (simp only [nxt_new, nxt_set]; omega)) _)) (by first | omega | (simp only [go_sem]; omega)) au (by omega) au ⟨.own s1.nxt 0 1, .sl .clip [], rfl, .inr ⟨s1.nxt, _, by simp [hwe], by omega, (by first | (exact au) | (simp only [List.map_set, List.map_append, List.map_cons, List.map_nil]; exact au))⟩, .inl ⟨.clip, by simp [hse]⟩⟩
              · have hc := hc6
                refine rs (k := rg [3, 4, 8, 10, 11, 12, 56, 130] (k := rc (ht := fun hc7 => ?_) (hf := fun hc7 => ?_)))
                · have hc := hc7
                  refine rs (k := rg [3, 4, 8, 10, 11, 138] (k := rc (ht := fun hc8 => ?_) (hf := fun hc8 => ?_)))
                  · have hc := hc8
                    exfalso
                    have h := of_decide_eq_true hc
                    first | omega | (simp at h; omega)
                  · have hc := hc8
                    refine rk (k := rB (k := ?_))
                    have hw9 : wv = 6 := by have h := of_decide_eq_true hc7; omega
                    subst hw9
                    refine rp [4, 8] (k := ?_)
                    refine hJb0 _ _ ⟨rfl, au, ?_⟩
                    rw [hodd, show oddG t k x 6 wi si at_ n = ⟨t.frame, t.tens.set k (⟨x.unit, x.fns, x.queue, x.wins, x.slts⟩ : Ten)⟩ by simp only [oddG, oddX, Int.reduceEq, reduceCtorEq, ↓reduceIte, List.append_nil, modF_ge (show x.wins.length ≤ wi by have := of_decide_eq_false hc8; first | omega | simp_all)]]
                    exact odd_done (by repeat (first | exact F1 | refine Fr.new ?_ _ | refine Fr.set ?_ (by omega) (by first | omega | (simp only [nxt_new, nxt_set]; omega)) _)) (by first | omega | (simp only [go_sem]; omega)) au (by omega) au ⟨.sl .clip [], .sl .clip [], rfl, .inl ⟨.clip, by simp [hwe]⟩, .inl ⟨.clip, by simp [hse]⟩⟩
                · have hc := hc7
                  refine rs (k := rg [3, 4, 8, 10, 11, 12, 56, 147] (k := rc (ht := fun hc9 => ?_) (hf := fun hc9 => ?_)))
                  · have hc := hc9
                    refine rs (k := rg [3, 4, 8, 10, 11, 155] (k := rc (ht := fun hc10 => ?_) (hf := fun hc10 => ?_)))
                    · have hc := hc10
                      exfalso
                      have h := of_decide_eq_true hc
                      first | omega | (simp at h; omega)
                    · have hc := hc10
                      refine rk (k := rB (k := ?_))
                      have hw9 : wv = 7 := by have h := of_decide_eq_true hc9; omega
                      subst hw9
                      refine rp [4, 8] (k := ?_)
                      refine hJb0 _ _ ⟨rfl, au, ?_⟩
                      rw [hodd, show oddG t k x 7 wi si at_ n = ⟨t.frame, t.tens.set k (⟨x.unit, x.fns, x.queue, x.wins, x.slts⟩ : Ten)⟩ by simp only [oddG, oddX, Int.reduceEq, reduceCtorEq, ↓reduceIte, List.append_nil, modF_ge (show x.wins.length ≤ wi by have := of_decide_eq_false hc10; first | omega | simp_all)]]
                      exact odd_done (by repeat (first | exact F1 | refine Fr.new ?_ _ | refine Fr.set ?_ (by omega) (by first | omega | (simp only [nxt_new, nxt_set]; omega)) _)) (by first | omega | (simp only [go_sem]; omega)) au (by omega) au ⟨.sl .clip [], .sl .clip [], rfl, .inl ⟨.clip, by simp [hwe]⟩, .inl ⟨.clip, by simp [hse]⟩⟩
                  · have hc := hc9
                    refine rs (k := rg [3, 4, 8, 10, 11, 12, 56, 164] (k := rc (ht := fun hc11 => ?_) (hf := fun hc11 => ?_)))
                    · have hc := hc11
                      refine rs (k := rg [3, 4, 8, 10, 11, 172] (k := rc (ht := fun hc12 => ?_) (hf := fun hc12 => ?_)))
                      · have hc := hc12
                        exfalso
                        have h := of_decide_eq_true hc
                        first | omega | (simp at h; omega)
                      · have hc := hc12
                        refine rk (k := rB (k := ?_))
                        have hw9 : wv = 8 := by have h := of_decide_eq_true hc11; omega
                        subst hw9
                        refine rp [4, 8] (k := ?_)
                        refine hJb0 _ _ ⟨rfl, au, ?_⟩
                        rw [hodd, show oddG t k x 8 wi si at_ n = ⟨t.frame, t.tens.set k (⟨x.unit, x.fns, x.queue, x.wins, x.slts⟩ : Ten)⟩ by simp only [oddG, oddX, Int.reduceEq, reduceCtorEq, ↓reduceIte, List.append_nil, modF_ge (show x.wins.length ≤ wi by have := of_decide_eq_false hc12; first | omega | simp_all)]]
                        exact odd_done (by repeat (first | exact F1 | refine Fr.new ?_ _ | refine Fr.set ?_ (by omega) (by first | omega | (simp only [nxt_new, nxt_set]; omega)) _)) (by first | omega | (simp only [go_sem]; omega)) au (by omega) au ⟨.sl .clip [], .sl .clip [], rfl, .inl ⟨.clip, by simp [hwe]⟩, .inl ⟨.clip, by simp [hse]⟩⟩
                    · have hc := hc11
                      refine rs (k := rg [3, 4, 8, 10, 11, 12, 56, 181] (k := rc (ht := fun hc13 => ?_) (hf := fun hc13 => ?_)))
                      · have hc := hc13
                        refine rs (k := rg [3, 4, 8, 10, 12, 189] (k := rc (ht := fun hc14 => ?_) (hf := fun hc14 => ?_)))
                        · have hc := hc14
                          exfalso
                          have h := of_decide_eq_true hc
                          first | omega | (simp at h; omega)
                        · have hc := hc14
                          refine rk (k := rB (k := ?_))
                          have hw9 : wv = 9 := by have h := of_decide_eq_true hc13; omega
                          subst hw9
                          refine rp [4, 8] (k := ?_)
                          refine hJb0 _ _ ⟨rfl, au, ?_⟩
                          rw [hodd, show oddG t k x 9 wi si at_ n = ⟨t.frame, t.tens.set k (⟨x.unit, x.fns, x.queue, x.wins, x.slts⟩ : Ten)⟩ by simp only [oddG, oddX, Int.reduceEq, reduceCtorEq, ↓reduceIte, List.append_nil, modF_ge (show x.slts.length ≤ si by have := of_decide_eq_false hc14; first | omega | simp_all)]]
                          exact odd_done (by repeat (first | exact F1 | refine Fr.new ?_ _ | refine Fr.set ?_ (by omega) (by first | omega | (simp only [nxt_new, nxt_set]; omega)) _)) (by first | omega | (simp only [go_sem]; omega)) au (by omega) au ⟨.sl .clip [], .sl .clip [], rfl, .inl ⟨.clip, by simp [hwe]⟩, .inl ⟨.clip, by simp [hse]⟩⟩
                      · have hc := hc13
                        refine rs (k := rg [3, 4, 8, 10, 11, 12, 56, 198] (k := rc (ht := fun hc15 => ?_) (hf := fun hc15 => ?_)))
                        · have hc := hc15
                          refine rs (k := rg [3, 4, 8, 10, 12, 206] (k := rc (ht := fun hc16 => ?_) (hf := fun hc16 => ?_)))
                          · have hc := hc16
                            exfalso
                            have h := of_decide_eq_true hc
                            first | omega | (simp at h; omega)
                          · have hc := hc16
                            refine rk (k := rB (k := ?_))
                            have hw9 : wv = 10 := by have h := of_decide_eq_true hc15; omega
                            subst hw9
                            refine rp [4, 8] (k := ?_)
                            refine hJb0 _ _ ⟨rfl, au, ?_⟩
                            rw [hodd, show oddG t k x 10 wi si at_ n = ⟨t.frame, t.tens.set k (⟨x.unit, x.fns, x.queue, x.wins, x.slts⟩ : Ten)⟩ by simp only [oddG, oddX, Int.reduceEq, reduceCtorEq, ↓reduceIte, List.append_nil, modF_ge (show x.slts.length ≤ si by have := of_decide_eq_false hc16; first | omega | simp_all)]]
                            exact odd_done (by repeat (first | exact F1 | refine Fr.new ?_ _ | refine Fr.set ?_ (by omega) (by first | omega | (simp only [nxt_new, nxt_set]; omega)) _)) (by first | omega | (simp only [go_sem]; omega)) au (by omega) au ⟨.sl .clip [], .sl .clip [], rfl, .inl ⟨.clip, by simp [hwe]⟩, .inl ⟨.clip, by simp [hse]⟩⟩
                        · have hc := hc15
                          refine rs (k := rg [3, 4, 8, 10, 11, 56, 215] (k := rc (ht := fun hc17 => ?_) (hf := fun hc17 => ?_)))
                          · have hc := hc17
                            refine Run.drawCut 6 [] Try.mixed (by kernel_rfl) (by kernel_rfl) ?_
                            refine DetC.all au ?_
                            refine RunO.appendOwn au au au Try.td22 (by rw [Try.zp47]; rfl) (fun p hp => by rw [List.mem_singleton.1 hp]; exact ⟨rfl, by rw [Try.cz47]; rfl⟩) (by rw [Try.by47]; decide) (by rw [Try.by47]; simp; omega) (v := .own s1.nxt 0 (t.tens.length + 1)) (s' := (s1.set (s.nxt + 1 + 1) none).new (.row 47 ((t.tens.map Ten.pv).set k (.agg [.int .i64 x.unit, .int .u32 x.fns, .int .i64 x.queue, .sl .clip [], .sl .clip []]) ++ [.agg [.int .i64 x.unit, .int .u32 x.fns, .int .i64 x.queue, .sl .clip [], .sl .clip []]]))) (by unfold aAppendOwn; rw [bA]; simp only [ne_eq, List.cons_ne_nil, not_false_eq_true, List.length_set, List.length_map, Nat.le_refl, and_self, if_true, List.length_cons, List.length_nil, Nat.zero_add]; rw [List.take_of_length_le (by simp)]) ?_
                            refine rh [4, 8] (k := rB (k := ?_))
                            have hw9 : wv = 11 := by have h := of_decide_eq_true hc17; omega
                            subst hw9
                            refine rp [4, 8] (k := ?_)
                            refine hJb0 _ _ ⟨rfl, au, ?_⟩
                            rw [hodd, show oddG t k x 11 wi si at_ n = ⟨t.frame, t.tens.set k (⟨x.unit, x.fns, x.queue, x.wins, x.slts⟩ : Ten) ++ [(⟨x.unit, x.fns, x.queue, x.wins, x.slts⟩ : Ten)]⟩ by simp only [oddG, oddX, Int.reduceEq, reduceCtorEq, ↓reduceIte, List.append_nil]]
                            exact odd_app (by repeat (first | exact F1 | refine Fr.new ?_ _ | refine Fr.set ?_ (by omega) (by first | omega | (simp only [nxt_new, nxt_set]; omega)) _)) (by first | omega | (simp only [go_sem]; omega)) au (by omega) au ⟨.sl .clip [], .sl .clip [], rfl, .inl ⟨.clip, by simp [hwe]⟩, .inl ⟨.clip, by simp [hse]⟩⟩
                          · have hc := hc17
                            refine rs (k := rg [3, 4, 8, 10, 11, 225] (k := rc (ht := fun hc18 => ?_) (hf := fun hc18 => ?_)))
                            · have hc := hc18
                              refine rg [4, 8] (k := rB (k := ?_))
                              have hw9 : wv = 12 := by have h := of_decide_eq_true hc18; omega
                              subst hw9
                              refine rp [4, 8] (k := ?_)
                              refine hJb0 _ _ ⟨rfl, au, ?_⟩
                              rw [hodd, show oddG t k x 12 wi si at_ n = ⟨t.frame, t.tens.set k (⟨x.unit, x.fns, x.queue, x.wins, []⟩ : Ten)⟩ by simp only [oddG, oddX, Int.reduceEq, reduceCtorEq, ↓reduceIte, List.append_nil]]
                              exact odd_done (by repeat (first | exact F1 | refine Fr.new ?_ _ | refine Fr.set ?_ (by omega) (by first | omega | (simp only [nxt_new, nxt_set]; omega)) _)) (by first | omega | (simp only [go_sem]; omega)) au (by omega) au ⟨.sl .clip [], .sl .nil [], rfl, .inl ⟨.clip, by simp [hwe]⟩, .inl ⟨.nil, rfl⟩⟩
                            · have hc := hc18
                              refine rs (k := rg [3, 4, 8, 10, 11, 63] (k := rc (ht := fun hc19 => ?_) (hf := fun hc19 => ?_)))
                              · have hc := hc19
                                exfalso
                                have h := of_decide_eq_true hc
                                first | omega | (simp at h; omega)
                              · have hc := hc19
                                refine rk (k := rB (k := ?_))
                                have hw9 : wv = 13 := by have := of_decide_eq_false hc1; have := of_decide_eq_false hc2; have := of_decide_eq_false hc3; have := of_decide_eq_false hc4; have := of_decide_eq_false hc5; have := of_decide_eq_false hc6; have := of_decide_eq_false hc7; have := of_decide_eq_false hc9; have := of_decide_eq_false hc11; have := of_decide_eq_false hc13; have := of_decide_eq_false hc15; have := of_decide_eq_false hc17; have := of_decide_eq_false hc18; omega
                                subst hw9
                                refine rp [4, 8] (k := ?_)
                                refine hJb0 _ _ ⟨rfl, au, ?_⟩
                                rw [hodd, show oddG t k x 13 wi si at_ n = ⟨t.frame, t.tens.set k (⟨x.unit, x.fns, x.queue, x.wins, x.slts⟩ : Ten)⟩ by simp only [oddG, oddX, Int.reduceEq, reduceCtorEq, ↓reduceIte, List.append_nil, modF_ge (show x.wins.length ≤ wi by have := of_decide_eq_false hc19; first | omega | simp_all)]]
                                exact odd_done (by repeat (first | exact F1 | refine Fr.new ?_ _ | refine Fr.set ?_ (by omega) (by first | omega | (simp only [nxt_new, nxt_set]; omega)) _)) (by first | omega | (simp only [go_sem]; omega)) au (by omega) au ⟨.sl .clip [], .sl .clip [], rfl, .inl ⟨.clip, by simp [hwe]⟩, .inl ⟨.clip, by simp [hse]⟩⟩
theorem law_odd {t : Tab} {m : Nat} (hm : m ≤ 1000) (ht : t.few m) {what at_ n : Int} (hwI : I64 what) (haI : I64 at_) (hnI : I64 n) {s : St} : ACalls Try.prog 11 [t.pv, .int .i64 what, .int .i64 at_, .int .i64 n] s (fun r s' => r = (oddF t what at_ n).pv ∧ s' = s) := by
  by_cases h0 : t.tens = []
  · exact odd_nil hm ht hwI haI hnI h0
  · have hl : 0 < t.tens.length := List.length_pos_iff.2 h0
    have hb := withinI_bound (n := at_) (lo := 0) (hi := (t.tens.length : Int) - 1) (by omega)
    obtain ⟨k, hk⟩ : ∃ y : Nat, withinI at_ 0 ((t.tens.length : Int) - 1) = y := ⟨_, (Int.toNat_of_nonneg hb.1).symm⟩
    have hkl : k < t.tens.length := by omega
    by_cases hw : t.tens[k].wins = []
    · by_cases hs : t.tens[k].slts = []
      · exact odd_nn hm ht hwI haI hnI hk hkl rfl hw hs
      · exact odd_ns hm ht hwI haI hnI hk hkl rfl hw hs
    · by_cases hs : t.tens[k].slts = []
      · exact odd_wn hm ht hwI haI hnI hk hkl rfl hw hs
      · exact odd_ws hm ht hwI haI hnI hk hkl rfl hw hs
end Go.Proofs
namespace Go.Proofs
open Go.PM
set_option maxHeartbeats 2000000
theorem law_same {t : Tab} (ht : t.ok) {u tick k : Int} {s : St} : ACalls Try.prog 9 [t.pv, .int .i64 u, .int .i64 tick, .int .i64 k] s (fun r s' => r = .bool true ∧ s' = s) := by
  refine go Try.func9 (k := fun hwf H => ?_)
  refine rs (k := rg [1, 2, 3, 4] (k := rs (k := rr (k := ro (pre := [_, _]) (k := rC (h := slots_At ht) (k := rh [1, 2, 3, 4, 9, 10] (k := rs (k := rr (k := ro (pre := [_, _]) (k := rC (h := ref11_At ht) (k := rh [1, 2, 3, 4, 9, 10, 11, 12] (k := rs (k := rr (k := ro (pre := [_, _, _, _]) (k := rC (h := slots_Next ht) (k := rh [1, 2, 3, 4, 9, 10, 11, 12, 13, 14] (k := ?_)))))))))))))))))
  refine rs (k := rr (k := ro (pre := [_, _, _, _]) (k := rC (h := ref11_Next ht) (k := rh [1, 2, 3, 4, 9, 10, 11, 12, 13, 14, 15, 16] (k := rs (k := ?_))))))
  refine Run.drawC [] [8] Try.mixed (by kernel_rfl) ?_
  refine DetC.pre (pre := [_, _, _, _]) au ?_
  refine DetC.gdo au au ?_
  refine DetC.gdo au au ?_
  refine DetC.gdo au au ?_
  refine DetC.pre (pre := [_, _]) au ?_
  refine DetC.gdo au au ?_
  refine DetC.gdo au au ?_
  refine DetC.call au au au (by kernel_rfl) (slots_Begins ht) ?_
  refine DetC.gdo au au ?_
  refine DetC.gdo au au ?_
  refine DetC.call au au au (by kernel_rfl) (ref11_Begins ht) ?_
  refine DetC.gdo au au ?_
  refine DetC.pre (pre := [_, _]) au ?_
  refine DetC.gdo au au ?_
  refine DetC.gdo au au ?_
  refine DetC.gdo au au ?_
  refine DetC.pre (pre := [_, _]) au ?_
  refine DetC.gdo au au ?_
  refine DetC.gdo au au ?_
  refine DetC.gdo au au ?_
  refine DetC.pre (pre := [_, _]) au ?_
  refine DetC.gdo au au ?_
  refine DetC.gdo au au ?_
  refine DetC.gdo au au ?_
  refine DetC.gdo au au ?_
  refine DetC.call au au au (by kernel_rfl) (slots_Release ht) ?_
  refine DetC.gdo au au ?_
  refine DetC.gdo au au ?_
  refine DetC.gdo au au ?_
  refine DetC.gdo au au ?_
  refine DetC.call au au au (by kernel_rfl) (ref11_Release ht) ?_
  refine DetC.gdo au au ?_
  refine DetC.all au ?_
  refine re (k := rR (k := rP (by simp only [Try.f9, go_sem]; rfl) hwf ⟨?_, rfl⟩))
  simp [PV.weak, go_sem]
set_option maxRecDepth 100000 in
theorem law_known {s : St} : ACalls Try.prog 10 [] s (fun r s' => r = .bool true ∧ s' = s) := by
  refine go Try.func10 (k := fun hwf H => ?_)
  have e1 : atS (⟨200, [⟨1, 0, 1, [], [⟨10, 72⟩]⟩, ⟨1, 0, 1, [], [⟨100, 80⟩]⟩]⟩ : Tab) 281 = (0, 0) := by decide
  have e2 : atS (⟨200, [⟨1, 0, 1, [], [⟨10, 72⟩]⟩, ⟨1, 0, 1, [], [⟨100, 80⟩]⟩]⟩ : Tab) 282 = (-1, -1) := by decide
  have e3 : nextS (⟨200, [⟨1, 0, 1, [], [⟨10, 72⟩]⟩, ⟨1, 0, 1, [], [⟨100, 80⟩]⟩]⟩ : Tab) 1 100 0 = (300, 379) := by decide
  have e4 : nextS (⟨200, [⟨1, 0, 1, [], [⟨10, 72⟩]⟩, ⟨1, 0, 1, [], [⟨100, 80⟩]⟩]⟩ : Tab) 1 99 1 = (300, 379) := by decide
  have e5 : atS (⟨0, []⟩ : Tab) 5 = (-1, -1) := by decide
  have e6 : begS (⟨200, [⟨1, 0, 1, [], [⟨10, 72⟩]⟩, ⟨1, 0, 1, [], [⟨100, 80⟩]⟩]⟩ : Tab) 210 = 0 := by decide
  have e7 : begS (⟨200, [⟨1, 0, 1, [], [⟨10, 72⟩]⟩, ⟨1, 0, 1, [], [⟨100, 80⟩]⟩]⟩ : Tab) 211 = -1 := by decide
  have e8 : nextS (⟨200, [⟨1, 0, 1, [], [⟨10, 72⟩]⟩, ⟨1, 0, 1, [], [⟨100, 80⟩]⟩]⟩ : Tab) 1 99 0 = (100, 179) := by decide
  have e9 : nextS (⟨200, [⟨1, 0, 1, [], [⟨10, 72⟩]⟩, ⟨1, 0, 1, [], [⟨100, 80⟩]⟩]⟩ : Tab) 2 0 0 = (-1, -1) := by decide
  have o0 : Tab.ok ⟨0, []⟩ := ⟨by decide, fun x hx => (by cases hx), by decide⟩
  have oK : Tab.ok (⟨200, [⟨1, 0, 1, [], [⟨10, 72⟩]⟩, ⟨1, 0, 1, [], [⟨100, 80⟩]⟩]⟩ : Tab) := by
    refine ⟨by decide, fun x hx => ?_, by decide⟩
    simp only [List.mem_cons, List.not_mem_nil, or_false] at hx
    rcases hx with rfl | rfl
    · exact ⟨by decide, ⟨by decide, by decide⟩, by decide, fun w hw => (by cases hw), fun w hw => by rw [List.mem_singleton.1 hw]; exact ⟨by decide, by decide⟩, by decide, by decide⟩
    · exact ⟨by decide, ⟨by decide, by decide⟩, by decide, fun w hw => (by cases hw), fun w hw => by rw [List.mem_singleton.1 hw]; exact ⟨by decide, by decide⟩, by decide, by decide⟩
  refine rs (k := rg [] (k := rs (k := rr (k := ro (pre := [_]) (k := rO (k := ro (pre := [_, _]) (k := rO (k := ro (pre := [_]) (k := rO (k := rh [1] (k := rs (k := rr (k := ro (pre := [_]) (k := ?_))))))))))))))
  refine RunO.callw au au au (by kernel_rfl) ((slots_At (t := (⟨200, [⟨1, 0, 1, [], [⟨10, 72⟩]⟩, ⟨1, 0, 1, [], [⟨100, 80⟩]⟩]⟩ : Tab)) oK).mono ?_)
  rintro r s9 ⟨rfl, hs⟩
  subst s9
  rw [e1]
  refine rh [1, 2, 3] (k := rs (k := rr (k := ro (pre := [_]) (k := ?_))))
  refine RunO.callw au au au (by kernel_rfl) ((slots_At (t := (⟨200, [⟨1, 0, 1, [], [⟨10, 72⟩]⟩, ⟨1, 0, 1, [], [⟨100, 80⟩]⟩]⟩ : Tab)) oK).mono ?_)
  rintro r s9 ⟨rfl, hs⟩
  subst s9
  rw [e2]
  refine rh [1, 2, 3, 4, 5] (k := rs (k := rr (k := ro (pre := [_]) (k := ?_))))
  refine RunO.callw au au au (by kernel_rfl) ((slots_Next (t := (⟨200, [⟨1, 0, 1, [], [⟨10, 72⟩]⟩, ⟨1, 0, 1, [], [⟨100, 80⟩]⟩]⟩ : Tab)) oK).mono ?_)
  rintro r s9 ⟨rfl, hs⟩
  subst s9
  rw [e3]
  refine rh [1, 2, 3, 4, 5, 6, 7] (k := rs (k := rr (k := ro (pre := [_]) (k := ?_))))
  refine RunO.callw au au au (by kernel_rfl) ((slots_Next (t := (⟨200, [⟨1, 0, 1, [], [⟨10, 72⟩]⟩, ⟨1, 0, 1, [], [⟨100, 80⟩]⟩]⟩ : Tab)) oK).mono ?_)
  rintro r s9 ⟨rfl, hs⟩
  subst s9
  rw [e4]
  refine rh [1, 2, 3, 4, 5, 6, 7, 8, 9] (k := rs (k := rr (k := ro (pre := [_]) (k := ?_))))
  refine RunO.callw au au au (by kernel_rfl) ((slots_At (t := (⟨0, []⟩ : Tab)) o0).mono ?_)
  rintro r s9 ⟨rfl, hs⟩
  subst s9
  rw [e5]
  refine rh [1, 2, 3, 4, 5, 6, 7, 8, 9, 10, 11] (k := rs (k := rrA [some 45, some 46, some 47, some 48, some 49, some 50, some 51, some 52, some 53, some 54, some 55, some 56, some 57, some 58, some 59, some 60, some 61, some 62, some 63, some 64, some 65, some 66, some 67, some 68, some 69, some 70, some 71, some 72, some 73, some 74, some 75, some 76, some 77, some 78, some 79, some 80, some 81, some 82, some 83, some 84, some 85, some 86, some 87, some 88, some 89, some 90, some 91, some 92, some 93, some 94, some 95, some 96, some 97, some 98, some 99, some 100, some 101, some 102, some 0] (k := fun ops hops => ?_)))
  have H := aj hops H
  refine ro (pre := [_, _, _, _, _, _, _, _, _, _, _, _, _, _, _]) (k := rQ 59 (ht := fun hg14 => ?_) (hf := fun hg14 => ?_))
  · refine rg1 (k := ?_)
    refine RunO.callw au au au (by kernel_rfl) ((slots_Begins (t := (⟨200, [⟨1, 0, 1, [], [⟨10, 72⟩]⟩, ⟨1, 0, 1, [], [⟨100, 80⟩]⟩]⟩ : Tab)) oK).mono ?_)
    rintro r s9 ⟨rfl, hs⟩
    subst s9
    rw [e6]
    refine rg1 (k := ro (pre := [_, _]) (k := rQ 64 (ht := fun hg19 => ?_) (hf := fun hg19 => ?_)))
    · refine rg1 (k := ?_)
      refine RunO.callw au au au (by kernel_rfl) ((slots_Begins (t := (⟨200, [⟨1, 0, 1, [], [⟨10, 72⟩]⟩, ⟨1, 0, 1, [], [⟨100, 80⟩]⟩]⟩ : Tab)) oK).mono ?_)
      rintro r s9 ⟨rfl, hs⟩
      subst s9
      rw [e7]
      refine rg1 (k := ro (pre := [_, _, _, _, _, _, _, _, _, _, _, _, _, _, _, _, _, _]) (k := rQ 85 (ht := fun hg40 => ?_) (hf := fun hg40 => ?_)))
      · refine rg1 (k := ?_)
        refine RunO.callw au au au (by kernel_rfl) ((slots_Release (t := (⟨200, [⟨1, 0, 1, [], [⟨10, 72⟩]⟩, ⟨1, 0, 1, [], [⟨100, 80⟩]⟩]⟩ : Tab)) oK).mono ?_)
        rintro r s9 ⟨rfl, hs⟩
        subst s9
        rw [e8]
        refine rg1 (k := ro (pre := [_, _]) (k := rQ 90 (ht := fun hg45 => ?_) (hf := fun hg45 => ?_)))
        · refine rg1 (k := ?_)
          refine RunO.callw au au au (by kernel_rfl) ((slots_Release (t := (⟨200, [⟨1, 0, 1, [], [⟨10, 72⟩]⟩, ⟨1, 0, 1, [], [⟨100, 80⟩]⟩]⟩ : Tab)) oK).mono ?_)
          rintro r s9 ⟨rfl, hs⟩
          subst s9
          rw [e9]
          refine rg1 (k := rh [0] (k := rR (k := rP (by simp only [Try.f10, go_sem]; rfl) hwf ⟨?_, rfl⟩)))
          simp [PV.weak, go_sem]
        · first | cases hg45 | simp at hg45
      · first | cases hg40 | simp at hg40
    · first | cases hg19 | simp at hg19
  · first | cases hg14 | simp at hg14
set_option maxRecDepth 100000 in
theorem law_Tells {l : List Int} (hl : l.length * 8 ≤ 140737488351232) {what at_ n : Int} (hw : I64 what) (hat : I64 at_) (hn : I64 n) {raw : Tab} (hraw : raw.ok) {u tick k : Int} {s : St} : ACalls Try.prog 4 [.sl .unk (l.map (PV.int .i64)), .int .i64 what, .int .i64 at_, .int .i64 n, raw.pv, .int .i64 u, .int .i64 tick, .int .i64 k] s (fun r s' => r = .bool true ∧ s' = s) := by
  refine go Try.func4 (k := fun hwf H => ?_)
  refine rs (k := rg [0, 1, 2, 3, 5, 6, 7, 12] (k := rs (k := rr (k := ro (pre := [_, _, _]) (k := ?_)))))
  refine RunO.callw au au au (by kernel_rfl) ((tape_Table (T := ⟨l, 0⟩) ⟨hl, by simp only; omega⟩ (tp := s.nxt + 1) (by simp (disch := omega) only [go_sem, ↓reduceIte] <;> rfl)).mono ?_)
  rintro r s9 ⟨t, T2, rfl, hs, hT2, hRt, hfwt⟩
  subst s9
  refine rh [1, 2, 3, 5, 6, 7, 12, 17] (k := rs (k := rr (k := ro (pre := [_, _, _, _, _, _, _]) (k := rC (h := law_same hfwt.ok) (k := ro (pre := [_]) (k := rQ 30 (ht := fun hg8 => ?_) (hf := fun hg8 => ?_)))))))
  · refine rg1 (k := rg1 (k := rg1 (k := rg1 (k := rC (h := law_same hfwt.ok) (k := ro (pre := [_, _]) (k := rQ 37 (ht := fun hg15 => ?_) (hf := fun hg15 => ?_)))))))
    · refine rg1 (k := rg1 (k := rg1 (k := rg1 (k := rg1 (k := rC (h := law_odd (m := 6) (by decide) hfwt hw hat (show I64 (ibits .and .i64 n 255) from (by have h : 0 ≤ ibits .and .i64 n 255 ∧ ibits .and .i64 n 255 ≤ 255 := ibits_and_le n 255 (by decide); unfold I64; omega))) (k := rg1 (k := rg1 (k := rg1 (k := rg1 (k := rg1 (k := rg1 (k := rC (h := law_same (oddF_few (m := 6) (what := what) (at_ := at_) (by decide) hfwt (show I64 (ibits .and .i64 n 255) from (by have h : 0 ≤ ibits .and .i64 n 255 ∧ ibits .and .i64 n 255 ≤ 255 := ibits_and_le n 255 (by decide); unfold I64; omega))).ok) (k := ?_)))))))))))))
      refine ro (pre := [_, _]) (k := rQ 52 (ht := fun hg30 => ?_) (hf := fun hg30 => ?_))
      · refine rg1 (k := ?_)
        refine RunO.callw au au au (by kernel_rfl) ((law_few hraw).mono ?_)
        rintro r s9 ⟨t2, rfl, hfe, hs⟩
        subst s9
        refine rg1 (k := rg1 (k := rg1 (k := rC (h := law_same hfe.ok) (k := ro (pre := [_, _]) (k := rQ 60 (ht := fun hg38 => ?_) (hf := fun hg38 => ?_))))))
        · refine rC (h := law_known) (k := rh [16] (k := rR (k := rP (by simp only [Try.f4, go_sem]; rfl) hwf ⟨?_, rfl⟩)))
          simp [PV.weak, go_sem]
        · cases hg38
      · cases hg30
    · cases hg15
  · cases hg8
def ivar2 (e : Env) (i : Nat) : Nat := match e.get i with
  | .int _ n => (n + 2).toNat
  | _ => 0
set_option maxRecDepth 100000 in
theorem law_Numbers {s : St} : ACalls Try.prog 3 [] s (fun r s' => r = .bool true ∧ s' = s) := by
  refine go Try.func3 (k := fun hwf H => ?_)
  refine rs (k := rg [] (k := rs (k := rs (k := rg [1] (k := rb (k := ?_))))))
  refine Run.loop (fun e s' => Fr s s' ∧ ∃ k : Nat, e = [(1, .int .i64 (k : Int))] ∧ k ≤ 20) (fun e s' => 20 - ivar e 1) ?_ ?_
  · exact ⟨Fr.refl hwf, 0, rfl, by omega⟩
  rintro e s1 ⟨F1, k, rfl, hk⟩
  refine rs (k := rs (k := rg [1, 7] (k := rc (ht := fun hc0 => ?_) (hf := fun hc0 => ?_))))
  · refine rk (k := rs (k := rb (k := rs (k := ?_))))
    have hkl : (k : Int) < 20 := of_decide_eq_true hc0
    have hwk : IntKind.i64.wrap ((k : Int) + 1) = ((k + 1 : Nat) : Int) := by rw [wrap_i64 (by omega)]; omega
    have h50 : ((5 : Int) = 0) = False := by decide
    have h70 : ((7 : Int) = 0) = False := by decide
    have h30 : ((3 : Int) = 0) = False := by decide
    have hk3 : (k : Int).tmod 3 = k % 3 := tmod_pos (by omega)
    have hw3 : IntKind.i64.wrap ((k : Int) % 3) = k % 3 := wrap_i64 (by omega)
    have H := aj hwk (aj h50 (aj h70 (aj h30 (aj hk3 (aj hw3 H)))))
    refine rr (k := ro (pre := [_]) (k := ?_))
    refine RunO.callw au au au (by kernel_rfl) ((law_tape).mono ?_)
    rintro r s9 ⟨l, rfl, hl, hs⟩
    subst s9
    refine ro (pre := [_, _]) (k := ?_)
    refine RunO.callw au au au (by kernel_rfl) ((tape_Table (T := ⟨l, 0⟩) ⟨by simp only; omega, by simp only; omega⟩ (tp := s1.nxt) (by simp only [go_sem, ↓reduceIte] <;> rfl)).mono ?_)
    rintro r s9 ⟨t, T2, rfl, hs, hT2, hR, hfw⟩
    subst s9
    have hf := (right_rt hR).f
    refine rh [1, 2] (k := rs (k := rs (k := ?_)))
    refine Run.abs (fun s2 => Fr s s2 ∧ (s1.nxt + 1) < s2.nxt ∧ s2.blk (s1.nxt + 1) = some (.row 24 [.agg [.int .i64 (t).frame, .sl .unk ((t).tens.map Ten.pv)]])) ⟨by repeat (first | exact F1 | refine Fr.new ?_ _ | refine Fr.set ?_ (by have := F1.nxt; omega) (by simp only [nxt_new, nxt_set]; omega) _), by simp only [nxt_new, nxt_set]; omega, by simp only [go_sem, ↓reduceIte]⟩ ?_
    rintro s2 ⟨F2, hb2n, hb2⟩
    have hw2f : IntKind.i64.wrap (2 * t.frame) = 2 * t.frame := wrap_i64 (by omega)
    have hw2g : IntKind.i64.wrap (2 * t.frame + 5) = 2 * t.frame + 5 := wrap_i64 (by omega)
    have H := aj hb2 (aj hw2f (aj hw2g H))
    refine rg [1, 2, 3] (k := rb (k := ?_))
    refine Run.loop (fun e s' => Fr s s' ∧ (s1.nxt + 1) < s'.nxt ∧ s'.blk (s1.nxt + 1) = some (.row 24 [.agg [.int .i64 (t).frame, .sl .unk ((t).tens.map Ten.pv)]]) ∧ ∃ i : Int, e = [(1, .int .i64 (k : Int)), (2, .ptr (s1.nxt + 1) 0 0), (3, .int .i64 i)] ∧ -2 ≤ i ∧ i ≤ 4010) (fun e s' => 4020 - ivar2 e 3) ?_ ?_
    · exact ⟨F2, hb2n, hb2, -2, rfl, by omega, by omega⟩
    rintro e s3 ⟨F3, hb3n, hb3, i, rfl, hi1, hi2⟩
    refine rs (k := rs (k := ?_))
    have H := aj hb3 H
    refine rg [1, 2, 3, 20] (k := rc (ht := fun hc1 => ?_) (hf := fun hc1 => ?_))
    · refine rk (k := rs (k := rb (k := rs (k := ?_))))
      have hil : i < 2 * t.frame + 5 := of_decide_eq_true hc1
      have hwi : IntKind.i64.wrap (i + 1) = i + 1 := wrap_i64 (by omega)
      have hwi2 : IntKind.i64.wrap (i + 1 + (k : Int) % 3) = i + 1 + (k : Int) % 3 := wrap_i64 (by omega)
      have H := aj hwi (aj hwi2 H)
      refine rr (k := ro (pre := [_, _, _, _, _, _, _]) (k := rC (h := law_same hfw.ok) (k := ro (pre := [_, _]) (k := rQ 35 (ht := fun hg9 => ?_) (hf := fun hg9 => ?_)))))
      · cases hg9
      · refine rg1 (k := rg1 (k := rg1 (k := rg1 (k := rg1 (k := rg1 (k := rC (h := law_same hfw.ok) (k := rg1 (k := rh [1, 2, 3, 44] (k := rc (ht := fun hc2 => ?_) (hf := fun hc2 => ?_))))))))))
        · cases hc2
        · refine rk (k := rB (k := rg [1, 2, 3] (k := ?_)))
          refine Run.lp ⟨⟨F3, hb3n, hb3, _, rfl, by omega, by omega⟩, ?_⟩
          simp only [ivar2, go_sem, ↓reduceIte, Nat.reduceEqDiff]
          omega
    · refine rX (k := rs (k := rs (k := ?_)))
      have H := aj hb3 H
      refine rr (k := rO (k := rh [1, 2, 45, 46, 47] (k := rb (k := ?_))))
      refine Run.loop (fun e s' => s' = s3 ∧ ∃ j : Nat, e = [(1, .int .i64 (k : Int)), (2, .ptr (s1.nxt + 1) 0 0), (45, .sl .clip [.int .i64 (1099511627776), .int .i64 (1099511627777), .int .i64 (9223372036854775807), .int .i64 (-9223372036854775808)]), (46, .int .i64 4), (47, .int .i64 (j : Int))] ∧ j ≤ 4) (fun e s' => 4 - ivar e 47) ?_ ?_
      · exact ⟨rfl, 0, rfl, by omega⟩
      rintro e s4 ⟨hs4, j, rfl, hj⟩
      subst s4
      refine rs (k := rg [1, 2, 45, 46, 47, 48] (k := rs (k := rc (ht := fun hc3 => ?_) (hf := fun hc3 => ?_))))
      · refine rk (k := rs (k := rb (k := rs (k := ?_))))
        have hj4 : (j : Int) < 4 := of_decide_eq_true hc3
        have hwj : IntKind.i64.wrap ((j : Int) + 1) = ((j + 1 : Nat) : Int) := by rw [wrap_i64 (by omega)]; omega
        obtain ⟨v, hv⟩ : ∃ v, ([.int .i64 (1099511627776), .int .i64 (1099511627777), .int .i64 (9223372036854775807), .int .i64 (-9223372036854775808)] : List PV)[j]? = some (.int .i64 v) := by
          rcases (show j = 0 ∨ j = 1 ∨ j = 2 ∨ j = 3 by omega) with rfl | rfl | rfl | rfl <;> exact ⟨_, rfl⟩
        have H := aj hwj (aj hv (aj hb3 H))
        refine rg [1, 2, 5, 45, 46, 47] (k := rs (k := rr (k := ro (pre := [_, _]) (k := rC (h := law_same hfw.ok) (k := ro (pre := [_, _]) (k := rQ 55 (ht := fun hg4 => ?_) (hf := fun hg4 => ?_)))))))
        · cases hg4
        · refine rg1 (k := rg1 (k := rC (h := law_same hfw.ok) (k := rg1 (k := ro (pre := [_, _]) (k := rQ 61 (ht := fun hg10 => ?_) (hf := fun hg10 => ?_))))))
          · cases hg10
          · refine rg1 (k := rg1 (k := rC (h := law_same hfw.ok) (k := rg1 (k := rh [1, 2, 45, 46, 47, 66] (k := rc (ht := fun hc4 => ?_) (hf := fun hc4 => ?_))))))
            · cases hc4
            · refine rk (k := rB (k := rg [1, 2, 45, 46, 47] (k := ?_)))
              refine Run.lp ⟨⟨rfl, j + 1, rfl, by omega⟩, ?_⟩
              simp only [ivar, go_sem, ↓reduceIte, Nat.reduceEqDiff]
              omega
      · refine rX (k := rs (k := rr (k := ro (pre := [_]) (k := rC (h := law_same hfw.ok) (k := ro (pre := [_, _]) (k := rQ 71 (ht := fun hg3 => ?_) (hf := fun hg3 => ?_)))))))
        · cases hg3
        · refine rg1 (k := rC (h := law_same hfw.ok) (k := rg1 (k := rh [1, 75] (k := rc (ht := fun hc5 => ?_) (hf := fun hc5 => ?_)))))
          · cases hc5
          · refine rk (k := rB (k := rg [1] (k := ?_)))
            refine Run.lp ⟨⟨F3, k + 1, rfl, by omega⟩, ?_⟩
            simp only [ivar, go_sem, ↓reduceIte, Nat.reduceEqDiff]
            omega
  · refine rX (k := rs (k := rr (k := rC (h := law_known) (k := rh [0] (k := rR (k := ?_))))))
    refine Ret.pure (by simp only [Try.f3, go_sem] <;> rfl) rfl (by simp only [go_sem, reduceCtorEq, false_implies, implies_true]) hwf (by first | exact (F1).blk) ⟨?_, rfl⟩
    · rfl
end Go.Proofs
namespace Go.Proofs
open Go.PM
set_option maxHeartbeats 2000000
set_option maxRecDepth 100000 in
theorem law_Whole {l : List Int} (hl : l.length * 8 ≤ 140737488351232) {tk turns : Int} {s : St} : ACalls Try.prog 6 [.sl .unk (l.map (PV.int .i64)), .int .i64 tk, .int .i64 turns] s (fun r s' => r = .bool true ∧ s' = s) := by
  refine go Try.func6 (k := fun hwf H => ?_)
  refine rs (k := rg [0, 1, 2] (k := rs (k := rr (k := ro (pre := [_, _, _]) (k := ?_)))))
  refine RunO.callw au au au (by kernel_rfl) ((tape_Table (T := ⟨l, 0⟩) ⟨hl, by simp only; omega⟩ (tp := s.nxt) (by simp (disch := omega) only [go_sem, ↓reduceIte] <;> rfl)).mono ?_)
  rintro r s9 ⟨t, T2, rfl, hs, hT2, hRt, hfwt⟩
  subst s9
  have hrt := right_rt hRt
  have hf := hrt.f
  have hf0 : (t.frame = 0) = False := eq_false (by omega)
  have hbt := hfwt.ok.bt
  have hfn := hrt.n
  refine rh [1, 2, 7] (k := rs (k := ?_))
  have ha0 := ibits_and_le tk 1048575 (by decide)
  obtain ⟨a, ha⟩ : ∃ a, ibits .and .i64 tk ((1048575 : Nat) : Int) = a := ⟨_, rfl⟩
  rw [ha] at ha0
  have ha : ibits .and .i64 tk 1048575 = a := ha
  have hm1 := ibits_and_le turns 255 (by decide)
  obtain ⟨m, hm⟩ : ∃ m, ibits .and .i64 turns ((255 : Nat) : Int) = m := ⟨_, rfl⟩
  rw [hm] at hm1
  have hm : ibits .and .i64 turns 255 = m := hm
  have hm0 : 0 ≤ m * t.frame := Int.mul_nonneg hm1.1 (by omega)
  have hm2 : m * t.frame ≤ 255 * t.frame := Int.mul_le_mul_of_nonneg_right hm1.2 (by omega)
  have hwm : IntKind.i64.wrap (m * t.frame) = m * t.frame := wrap_i64 (by omega)
  have hwa : IntKind.i64.wrap (a + m * t.frame) = a + m * t.frame := wrap_i64 (by omega)
  have H := aj ha (aj hm (aj hwm (aj hwa (aj hf0 H))))
  refine rg [2, 7, 8] (k := rs (k := rr (k := ro (pre := [_, _]) (k := rC (h := slots_At hfwt.ok) (k := rh [2, 7, 8, 9, 10] (k := rs (k := rr (k := ro (pre := [_, _, _, _, _, _, _, _]) (k := ?_)))))))))
  refine RunO.callw au au au (by kernel_rfl) ((slots_At hfwt.ok (tick := a + m * t.frame)).mono ?_)
  rintro r s9 ⟨rfl, hs⟩
  subst s9
  rw [atS_whole ha0.1 hm0]
  refine rh [7, 8, 9, 10, 11, 12] (k := rs (k := rs (k := rg [7, 8, 9, 10, 46] (k := rc (ht := fun hc0 => ?_) (hf := fun hc0 => ?_)))))
  · cases hc0
  · refine rk (k := rs (k := rs (k := rg [7, 8, 9, 10, 48] (k := rc (ht := fun hc1 => ?_) (hf := fun hc1 => ?_)))))
    · refine rs (k := ?_)
      have hN : atS t a = (-1, -1) := by
        rcases atS_bound t a with h | ⟨i, j, _, _, e, _⟩
        · exact h
        · rw [e] at hc1; have := of_decide_eq_true hc1; omega
      have hB : begS t a = -1 := by unfold begS; rw [hN]; rfl
      rw [hN]
      refine rr (k := ro (pre := [_, _, _]) (k := rQ 51 (ht := fun hg2 => ?_) (hf := fun hg2 => ?_)))
      · refine rg1 (k := rg1 (k := ?_))
        refine RunO.callw au au au (by kernel_rfl) ((slots_Begins hfwt.ok (tick := a)).mono ?_)
        rintro r s9 ⟨rfl, hs⟩
        subst s9
        rw [hB]
        refine rg1 (k := ro (pre := [_, _]) (k := rQ 57 (ht := fun hg8 => ?_) (hf := fun hg8 => ?_)))
        · refine rC (h := law_known) (k := rh [6] (k := rR (k := rP (by simp only [Try.f6, go_sem]; rfl) hwf ⟨?_, rfl⟩)))
          simp [PV.weak, go_sem]
        · first | cases hg8 | simp at hg8
      · first | cases hg2 | simp at hg2
    · refine rk (k := rs (k := rs (k := ?_)))
      obtain ⟨i, j, hi, hj, hA, hp, _, _⟩ : ∃ i j : Nat, ∃ h : i < t.tens.length, ∃ h' : j < t.tens[i].slts.length, atS t a = ((i : Int), (j : Int)) ∧ holds (a.tmod t.frame) t.tens[i].slts[j] = true ∧ 0 ≤ a ∧ tabRight t = true := by
        rcases atS_bound t a with h | h
        · rw [h] at hc1; have := of_decide_eq_false hc1; omega
        · exact h
      obtain ⟨x, hx⟩ : ∃ x, t.tens[i] = x := ⟨_, rfl⟩
      rw [hx] at hj
      have hxm : x ∈ t.tens := by rw [← hx]; exact List.getElem_mem _
      have hsl := hrt.s x hxm
      obtain ⟨y, hy⟩ : ∃ y, x.slts[j] = y := ⟨_, rfl⟩
      simp only [hx, hy] at hp
      have hyp := hrt.p x hxm y (by rw [← hy]; exact List.getElem_mem _)
      obtain ⟨p, hpp⟩ : ∃ p, a.tmod t.frame = p := ⟨_, rfl⟩
      rw [hpp] at hp
      simp only [holds, Bool.and_eq_true, decide_eq_true_eq] at hp
      have hxx : (t.tens.map Ten.pv)[i]? = some (.agg [.int .i64 (x).unit, .int .u32 (x).fns, .int .i64 (x).queue, .sl .unk ((x).wins.map Win.pv), .sl .unk ((x).slts.map Slt.pv)]) := by rw [map_get hi, hx]; rfl
      have hyy : (x.slts.map Slt.pv)[j]? = some (.agg [.int .i64 (y).pos, .int .i64 (y).len]) := by rw [map_get hj, hy]; rfl
      have hli : ((t.tens.length : Int) ≤ (i : Int)) = False := eq_false (by omega)
      have hlj : ((x.slts.length : Int) ≤ (j : Int)) = False := eq_false (by omega)
      have hj0 : ((j : Int) < 0) = False := eq_false (by omega)
      have hRt := hRt
      have hp1 : (y.pos ≤ p) = True := eq_true (by omega)
      have hp2 : (p < y.pos + y.len) = True := eq_true (by omega)
      have hwp : IntKind.i64.wrap (y.pos + y.len) = y.pos + y.len := wrap_i64 (by omega)
      have hwp2 : IntKind.i64.wrap p = p := wrap_i64 (by omega)
      have hbe : ((decide ((if p = y.pos then (i : Int) else -1) = (i : Int))) == decide (p = y.pos)) = true := by
        by_cases h : p = y.pos
        · simp [h]
        · simp only [h, if_false, decide_false, beq_false, Bool.not_eq_true', decide_eq_false_iff_not]; omega
      have hbe2 : ((decide ((i : Int) = (if p = y.pos then (i : Int) else -1))) == decide (p = y.pos)) = true := by rw [← hbe]; congr 1; simp only [eq_comm]
      rw [hA]
      have H := aj hpp (aj hxx (aj hyy (aj hli (aj hlj (aj hj0 (aj hp1 (aj hp2 (aj hwp (aj hwp2 (aj hbe (aj hbe2 (aj hf0 H))))))))))))
      refine rg [7, 8, 9, 10, 79] (k := rc (ht := fun hc2 => ?_) (hf := fun hc2 => ?_))
      · cases hc2
      · refine rk (k := rs (k := rg [7, 8, 9, 13] (k := rs (k := rg [7, 8, 9, 13, 14] (k := rs (k := ?_))))))
        refine Run.drawC [] [6] Try.mixed (by kernel_rfl) ?_
        refine DetC.pre (pre := [_, _, _, _, _]) au ?_
        refine DetC.gdo au au ?_
        refine DetC.gdo au au ?_
        refine DetC.gdo au au ?_
        refine DetC.gdo au au ?_
        refine DetC.gdo au au ?_
        refine DetC.gdo au au ?_
        refine DetC.gdo au au ?_
        refine DetC.pre (pre := [_, _]) au ?_
        refine DetC.gdo au au ?_
        refine DetC.gdo au au ?_
        refine DetC.call au au au (by kernel_rfl) (slots_Begins_yes hfwt.ok hA hi hx hj hy ha0.1 hRt) ?_
        refine DetC.gdo au au ?_
        refine DetC.gdo au au ?_
        refine DetC.gdo au au ?_
        refine DetC.gdo au au ?_
        refine DetC.gdo au au ?_
        refine DetC.gdo au au ?_
        refine DetC.gdo au au ?_
        refine DetC.pre (pre := [_, _]) au ?_
        refine DetC.call au au au (by kernel_rfl) (law_known) ?_
        refine DetC.all au ?_
        refine re (k := rR (k := rP (by simp only [Try.f6, go_sem]; rfl) hwf ⟨?_, rfl⟩))
        simp [PV.weak, go_sem]
end Go.Proofs
