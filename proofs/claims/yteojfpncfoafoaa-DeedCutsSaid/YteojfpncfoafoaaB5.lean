import Derived.Test.YteojfpncfoafoaaB4
import Derived.Test.YteojfpncfoafoaaB2
set_option linter.unusedVariables false
set_option linter.unusedSimpArgs false
namespace Go.Proofs
open Go.PM
set_option maxHeartbeats 2000000
attribute [local go_sem] List.set_set List.map_nil List.length_nil List.length_set Int.toNat_natCast Nat.zero_add Tab.pv
theorem isEls_none (P : Program) (e : TypeId) : isEls P e [] := fun p hp => by cases hp
def ListR (s' : St) (lo : Nat) (v : PV) (els : List PV) : Prop := (∃ k, v = .sl k els) ∨ ∃ L ty, v = .own L 0 els.length ∧ lo < L ∧ s'.blk L = some (.row ty els)
def TenR (s' : St) (lo : Nat) (el : PV) (x : Ten) : Prop := ∃ vw vs, el = .agg [.int .i64 x.unit, .int .u32 x.fns, .int .i64 x.queue, vw, vs] ∧ ListR s' lo vw (x.wins.map Win.pv) ∧ ListR s' lo vs (x.slts.map Slt.pv)
structure OddR (s0 s' : St) (t' : Tab) : Prop where
  fr : Fr s0 s'
  lt : s0.nxt + 1 < s'.nxt
  row : ∃ A els, s'.blk s0.nxt = some (.row 24 [.agg [.int .i64 t'.frame, .own A 0 t'.tens.length]]) ∧ s0.nxt + 1 < A ∧ s'.blk A = some (.row 53 els) ∧ els.length = t'.tens.length ∧ ∀ j (h : j < els.length) (h' : j < t'.tens.length), TenR s' (s0.nxt + 1) els[j] t'.tens[j]
theorem ListR.frz {s' : St} {lo : Nat} {v : PV} {els : List PV} (h : ListR s' lo v els) {q : Nat → Bool} (hq : ∀ i, lo < i → q i = false) (n : Nat) (hf : ∀ e ∈ els, PV.frz true s' q n e = e) : PV.frz true s' q (n + 1) v = .sl .unk els := by
  have hm : els.map (PV.frz true s' q n) = els := by
    conv => rhs; rw [← List.map_id els]
    exact List.map_congr_left fun e he => by rw [hf e he]; rfl
  rcases h with ⟨k, rfl⟩ | ⟨L, ty, rfl, h2, h3⟩
  · unfold PV.frz
    rw [hm]; rfl
  · unfold PV.frz
    rw [if_neg (by rw [hq L h2]; simp), h3]
    simp only [Nat.zero_add, List.drop_zero, Nat.le_refl, if_true, List.take_length, hm]
theorem TenR.frz {s' : St} {lo : Nat} {el : PV} {x : Ten} (h : TenR s' lo el x) {q : Nat → Bool} (hq : ∀ i, lo < i → q i = false) : PV.frz true s' q 5 el = x.pv := by
  obtain ⟨vw, vs, rfl, hw, hs⟩ := h
  have e1 := hw.frz hq 3 (fun e he => by obtain ⟨w, _, rfl⟩ := List.mem_map.1 he; simp [Win.pv, PV.frz, PV.weak])
  have e2 := hs.frz hq 3 (fun e he => by obtain ⟨w, _, rfl⟩ := List.mem_map.1 he; simp [Slt.pv, PV.frz, PV.weak])
  unfold PV.frz
  simp only [List.map_cons, List.map_nil, e1, e2]
  simp [PV.frz, PV.weak, Ten.pv]
theorem OddR.frz {s0 s' : St} {t' : Tab} (h : OddR s0 s' t') {A : Nat} (hA : s'.blk s0.nxt = some (.row 24 [.agg [.int .i64 t'.frame, .own A 0 t'.tens.length]])) : PV.frz true s' (fun i => decide (i < s0.nxt)) 7 (.agg [.int .i64 t'.frame, .own A 0 t'.tens.length]) = t'.pv := by
  obtain ⟨B, els, h1, h2, h3, h4, h5⟩ := h.row
  rw [h1] at hA
  have : B = A := by simpa using hA
  subst this
  have hq : ∀ i, s0.nxt + 1 < i → (fun i => decide (i < s0.nxt)) i = false := fun i hi => decide_eq_false (by omega)
  have hm : els.map (PV.frz true s' (fun i => decide (i < s0.nxt)) 5) = t'.tens.map Ten.pv := by
    refine List.ext_getElem (by simp [h4]) fun j a b => ?_
    simp only [List.length_map] at a b
    rw [List.getElem_map, List.getElem_map]
    exact (h5 j a b).frz hq
  unfold PV.frz
  simp only [List.map_cons, List.map_nil]
  unfold PV.frz
  rw [if_neg (by rw [decide_eq_false (by omega : ¬ B < s0.nxt)]; simp), h3]
  simp only [Nat.zero_add, List.drop_zero, ← h4, Nat.le_refl, if_true, List.take_length, hm]
  simp [PV.weak, Tab.pv]
theorem ListR.mono {s' s'' : St} {lo : Nat} {v : PV} {els : List PV} (h : ListR s' lo v els) (hb : ∀ i, lo < i → s''.blk i = s'.blk i) : ListR s'' lo v els := by
  rcases h with h | ⟨L, ty, h1, h2, h3⟩
  · exact .inl h
  · exact .inr ⟨L, ty, h1, h2, by rw [hb L h2]; exact h3⟩
theorem TenR.mono {s' s'' : St} {lo : Nat} {el : PV} {x : Ten} (h : TenR s' lo el x) (hb : ∀ i, lo < i → s''.blk i = s'.blk i) : TenR s'' lo el x := by
  obtain ⟨vw, vs, h1, h2, h3⟩ := h
  exact ⟨vw, vs, h1, h2.mono hb, h3.mono hb⟩
theorem TenR.same (s' : St) (lo : Nat) (x : Ten) : TenR s' lo x.pv x := ⟨_, _, rfl, .inl ⟨_, rfl⟩, .inl ⟨_, rfl⟩⟩
theorem OddR.set {s0 s' : St} {t' : Tab} (h : OddR s0 s' t') (b : Option Blk) : OddR s0 (s'.set (s0.nxt + 1) b) t' where
  fr := h.fr.set (Nat.le_succ _) h.lt _
  lt := h.lt
  row := by
    obtain ⟨B, els, h1, h2, h3, h4, h5⟩ := h.row
    refine ⟨B, els, by rw [blk_set, if_neg (by omega)]; exact h1, h2, by rw [blk_set, if_neg (by omega)]; exact h3, h4, fun j a b => (h5 j a b).mono fun i hi => by rw [blk_set, if_neg (by omega)]⟩
theorem Run.abs {P : Program} {N : Nat} {k : List KI} {e : Env} {s : St} {rt : Env → St → Prop} (I : St → Prop) (h1 : I s) (h2 : ∀ s', I s' → Run P N k e s' rt) : Run P N k e s rt := h2 s h1
theorem tens_set {s' : St} {lo : Nat} {tens : List Ten} {k : Nat} {X : PV} {x' : Ten} (hX : TenR s' lo X x') : ∀ j (h : j < ((tens.map Ten.pv).set k X).length) (h' : j < (tens.set k x').length), TenR s' lo (((tens.map Ten.pv).set k X)[j]) ((tens.set k x')[j]) := by
  intro j h h'
  simp only [List.getElem_set]
  split
  · exact hX
  · rw [List.getElem_map]; exact TenR.same _ _ _
theorem odd_done {s0 s' : St} {t : Tab} {k : Nat} {X : PV} {x' : Ten} {f : Int} {A : Nat} (fr : Fr s0 s') (lt : s0.nxt + 1 < s'.nxt) (b4 : s'.blk s0.nxt = some (.row 24 [.agg [.int .i64 f, .own A 0 t.tens.length]])) (hA : s0.nxt + 1 < A)
    (bA : s'.blk A = some (.row 53 ((t.tens.map Ten.pv).set k X))) (hX : TenR s' (s0.nxt + 1) X x') : OddR s0 s' ⟨f, t.tens.set k x'⟩ :=
  ⟨fr, lt, A, _, by rw [List.length_set]; exact b4, hA, bA, by simp, tens_set hX⟩
theorem odd_app {s0 s' : St} {t : Tab} {k : Nat} {X : PV} {x' : Ten} {f : Int} {A : Nat} (fr : Fr s0 s') (lt : s0.nxt + 1 < s'.nxt) (b4 : s'.blk s0.nxt = some (.row 24 [.agg [.int .i64 f, .own A 0 (t.tens.length + 1)]])) (hA : s0.nxt + 1 < A)
    (bA : s'.blk A = some (.row 53 ((t.tens.map Ten.pv).set k X ++ [X]))) (hX : TenR s' (s0.nxt + 1) X x') : OddR s0 s' ⟨f, t.tens.set k x' ++ [x']⟩ := by
  refine ⟨fr, lt, A, _, by rw [List.length_append, List.length_set]; exact b4, hA, bA, by simp, fun j h h' => ?_⟩
  by_cases hj : j < (t.tens.set k x').length
  · rw [List.getElem_append_left (by simpa using hj), List.getElem_append_left hj]
    exact tens_set hX j (by simpa using hj) hj
  · have e : j = (t.tens.set k x').length := by simp at h' hj ⊢; omega
    have e2 : ((t.tens.map Ten.pv).set k X).length = (t.tens.set k x').length := by simp
    rw [List.getElem_append_right (by omega), List.getElem_append_right (by omega)]
    simp only [e, e2, Nat.sub_self, List.getElem_cons_zero]
    exact hX
def modF {α : Type} (l : List α) (i : Nat) (f : α → α) : List α := match l[i]? with
  | some v => l.set i (f v)
  | none => l
theorem modF_lt {α : Type} {l : List α} {i : Nat} {f : α → α} {v : α} (h : i < l.length) (e : l[i] = v) : modF l i f = l.set i (f v) := by
  unfold modF; rw [List.getElem?_eq_getElem h, e]
theorem modF_ge {α : Type} {l : List α} {i : Nat} {f : α → α} (h : l.length ≤ i) : modF l i f = l := by
  unfold modF; rw [List.getElem?_eq_none h]
theorem modF_len {α : Type} (l : List α) (i : Nat) (f : α → α) : (modF l i f).length = l.length := by
  unfold modF; split <;> simp
theorem modF_mem {α : Type} {l : List α} {i : Nat} {f : α → α} {y : α} (h : y ∈ modF l i f) : y ∈ l ∨ ∃ v ∈ l, y = f v := by
  unfold modF at h
  split at h
  · rename_i v hv
    rcases List.mem_or_eq_of_mem_set h with h | h
    · exact .inl h
    · exact .inr ⟨v, List.mem_of_getElem? hv, h⟩
  · exact .inl h
def oddX (x : Ten) (w : Int) (wi si : Nat) (at_ n : Int) : Ten :=
  ⟨if w = 1 then n else x.unit, if w = 3 then IntKind.u32.wrap n else x.fns, if w = 2 then n else x.queue,
   if w = 5 then x.wins ++ [⟨ibits .and .i64 n 3, ibits .and .i64 at_ 1023, ibits .and .i64 n 511, 1 + ibits .and .i64 at_ 31⟩]
   else if w = 6 then modF x.wins wi fun v => ⟨v.space, v.virt, n, v.cnt⟩
   else if w = 7 then modF x.wins wi fun v => ⟨v.space, n, v.phys, v.cnt⟩
   else if w = 8 then modF x.wins wi fun v => ⟨v.space, v.virt, v.phys, n⟩
   else if w = 13 then modF x.wins wi fun v => ⟨ibits .and .i64 n 7, v.virt, v.phys, v.cnt⟩ else x.wins,
   if w = 4 then x.slts ++ [⟨n, 72⟩] else if w = 9 then modF x.slts si fun v => ⟨n, v.len⟩ else if w = 10 then modF x.slts si fun v => ⟨v.pos, n⟩ else if w = 12 then [] else x.slts⟩
def oddG (t : Tab) (k : Nat) (x : Ten) (w : Int) (wi si : Nat) (at_ n : Int) : Tab :=
  ⟨if w = 0 then n else t.frame, t.tens.set k (oddX x w wi si at_ n) ++ if w = 11 then [x] else []⟩
def oddF (t : Tab) (what at_ n : Int) : Tab :=
  match t.tens[(withinI at_ 0 ((t.tens.length : Int) - 1)).toNat]? with
  | none => t
  | some x => oddG t (withinI at_ 0 ((t.tens.length : Int) - 1)).toNat x (withinI what 0 13) (withinI n 0 5).toNat (withinI n 0 2).toNat at_ n
theorem oddF_eq {t : Tab} {what at_ n wv : Int} {k wi si : Nat} {x : Ten} (hkw : withinI at_ 0 ((t.tens.length : Int) - 1) = k) (hkl : k < t.tens.length) (hxe : t.tens[k] = x) (hwv : withinI what 0 13 = wv) (hwi : withinI n 0 5 = wi) (hsi : withinI n 0 2 = si) :
    oddF t what at_ n = oddG t k x wv wi si at_ n := by
  unfold oddF
  rw [hkw, hwv, hwi, hsi, Int.toNat_natCast, List.getElem?_eq_getElem hkl, hxe]
  simp only [Int.toNat_natCast]
theorem oddX_ok {x : Ten} (h : x.ok) {m : Nat} (hm : m ≤ 1000) (h1 : x.wins.length ≤ m) (h2 : x.slts.length ≤ m) (w : Int) (wi si : Nat) {at_ n : Int} (hn : I64 n) : (oddX x w wi si at_ n).ok ∧ (oddX x w wi si at_ n).wins.length ≤ m + 1 ∧ (oddX x w wi si at_ n).slts.length ≤ m + 1 := by
  have hb0 : 0 ≤ ibits .and .i64 n 3 ∧ ibits .and .i64 n 3 ≤ 3 := ibits_and_le n 3 (by decide)
  have hb1 : 0 ≤ ibits .and .i64 at_ 1023 ∧ ibits .and .i64 at_ 1023 ≤ 1023 := ibits_and_le at_ 1023 (by decide)
  have hb2 : 0 ≤ ibits .and .i64 n 511 ∧ ibits .and .i64 n 511 ≤ 511 := ibits_and_le n 511 (by decide)
  have hb3 : 0 ≤ ibits .and .i64 at_ 31 ∧ ibits .and .i64 at_ 31 ≤ 31 := ibits_and_le at_ 31 (by decide)
  have hb4 : 0 ≤ ibits .and .i64 n 7 ∧ ibits .and .i64 n 7 ≤ 7 := ibits_and_le n 7 (by decide)
  have lw : (oddX x w wi si at_ n).wins.length ≤ m + 1 := by
    simp only [oddX]; repeat' split
    all_goals (try simp only [modF_len, List.length_append, List.length_cons, List.length_nil]); omega
  have ls : (oddX x w wi si at_ n).slts.length ≤ m + 1 := by
    simp only [oddX]; repeat' split
    all_goals (try simp only [modF_len, List.length_append, List.length_cons, List.length_nil]); omega
  refine ⟨⟨?_, ?_, ?_, ?_, ?_, by omega, by omega⟩, lw, ls⟩
  · simp only [oddX]; split <;> first | exact hn | exact h.unit
  · simp only [oddX]; split <;> first | exact U32_wrap n | exact h.fns
  · simp only [oddX]; split <;> first | exact hn | exact h.queue
  · intro v hv
    simp only [oddX] at hv
    split at hv
    · rcases List.mem_append.1 hv with hv | hv
      · exact h.wins v hv
      · rw [List.mem_singleton.1 hv]; exact ⟨⟨by simp only; omega, by simp only; omega⟩, ⟨by simp only; omega, by simp only; omega⟩, ⟨by simp only; omega, by simp only; omega⟩, ⟨by simp only; omega, by simp only; omega⟩⟩
    all_goals
      split at hv
      · rcases modF_mem hv with hv | ⟨u, hu, rfl⟩
        · exact h.wins v hv
        · have := h.wins u hu; exact ⟨this.space, this.virt, hn, this.cnt⟩
      split at hv
      · rcases modF_mem hv with hv | ⟨u, hu, rfl⟩
        · exact h.wins v hv
        · have := h.wins u hu; exact ⟨this.space, hn, this.phys, this.cnt⟩
      split at hv
      · rcases modF_mem hv with hv | ⟨u, hu, rfl⟩
        · exact h.wins v hv
        · have := h.wins u hu; exact ⟨this.space, this.virt, this.phys, hn⟩
      split at hv
      · rcases modF_mem hv with hv | ⟨u, hu, rfl⟩
        · exact h.wins v hv
        · have := h.wins u hu; exact ⟨⟨by simp only; omega, by simp only; omega⟩, this.virt, this.phys, this.cnt⟩
      · exact h.wins v hv
  · intro v hv
    simp only [oddX] at hv
    split at hv
    · rcases List.mem_append.1 hv with hv | hv
      · exact h.slts v hv
      · rw [List.mem_singleton.1 hv]; exact ⟨hn, (show I64 72 by decide)⟩
    split at hv
    · rcases modF_mem hv with hv | ⟨u, hu, rfl⟩
      · exact h.slts v hv
      · have := h.slts u hu; exact ⟨hn, this.len⟩
    split at hv
    · rcases modF_mem hv with hv | ⟨u, hu, rfl⟩
      · exact h.slts v hv
      · have := h.slts u hu; exact ⟨this.pos, hn⟩
    split at hv
    · cases hv
    · exact h.slts v hv
theorem few_app {t : Tab} {m : Nat} (ht : t.few (m + 1)) {x : Ten} (hx : x.ok) (h1 : x.wins.length ≤ m + 1) (h2 : x.slts.length ≤ m + 1) (hn : t.tens.length ≤ m) (hm : m ≤ 1000) : Tab.few ⟨t.frame, t.tens ++ [x]⟩ (m + 1) := by
  refine ⟨⟨ht.ok.frame, fun y hy => ?_, by simp; omega⟩, by simp; omega, fun y hy => ?_, fun y hy => ?_⟩
  · rcases List.mem_append.1 hy with h | h
    · exact ht.ok.tens y h
    · rw [List.mem_singleton.1 h]; exact hx
  · rcases List.mem_append.1 hy with h | h
    · exact ht.nw y h
    · rw [List.mem_singleton.1 h]; exact h1
  · rcases List.mem_append.1 hy with h | h
    · exact ht.ns y h
    · rw [List.mem_singleton.1 h]; exact h2
theorem few_set {t : Tab} {m : Nat} (ht : t.few m) {k : Nat} {x' : Ten} (h1 : x'.ok) (h2 : x'.wins.length ≤ m + 1) (h3 : x'.slts.length ≤ m + 1) (hm : m ≤ 1000) {f : Int} (hf : I64 f) : Tab.few ⟨f, t.tens.set k x'⟩ (m + 1) := by
  have hnt := ht.nt
  have hin : ∀ y ∈ t.tens.set k x', y ∈ t.tens ∨ y = x' := fun y hy => List.mem_or_eq_of_mem_set hy
  refine ⟨⟨hf, fun y hy => ?_, by rw [List.length_set]; omega⟩, by rw [List.length_set]; omega, fun y hy => ?_, fun y hy => ?_⟩
  · rcases hin y hy with h | rfl
    · exact ht.ok.tens y h
    · exact h1
  · rcases hin y hy with h | rfl
    · have := ht.nw y h; omega
    · exact h2
  · rcases hin y hy with h | rfl
    · have := ht.ns y h; omega
    · exact h3
theorem oddF_few {t : Tab} {m : Nat} (hm : m ≤ 1000) (ht : t.few m) {what at_ n : Int} (hn : I64 n) : (oddF t what at_ n).few (m + 1) := by
  unfold oddF
  split
  · exact ⟨ht.ok, by have := ht.nt; omega, fun x hx => by have := ht.nw x hx; omega, fun x hx => by have := ht.ns x hx; omega⟩
  · rename_i x hx
    have hxm := List.mem_of_getElem? hx
    have h := oddX_ok (ht.ok.tens x hxm) hm (ht.nw x hxm) (ht.ns x hxm) (withinI what 0 13) (withinI n 0 5).toNat (withinI n 0 2).toNat (at_ := at_) hn
    have hF : I64 (if withinI what 0 13 = 0 then n else t.frame) := by split <;> first | exact hn | exact ht.ok.frame
    have h2 := few_set (k := (withinI at_ 0 ((t.tens.length : Int) - 1)).toNat) ht h.1 h.2.1 h.2.2 hm hF
    unfold oddG
    by_cases h11 : withinI what 0 13 = 11
    · rw [if_pos h11 (t := [x])]
      refine few_app h2 (ht.ok.tens x hxm) ?_ ?_ (by simp only [List.length_set]; exact ht.nt) hm
      · have := ht.nw x hxm; omega
      · have := ht.ns x hxm; omega
    · rw [if_neg h11 (t := [x]), List.append_nil]; exact h2
theorem odd_nil {t : Tab} {m : Nat} (hm : m ≤ 1000) (ht : t.few m) {what at_ n : Int} (hwI : I64 what) (haI : I64 at_) (hnI : I64 n) (h0 : t.tens = []) {s : St} : ACalls Try.prog 12 [t.pv, .int .i64 what, .int .i64 at_, .int .i64 n] s (fun r s' => r = (oddF t what at_ n).pv ∧ s' = s) := by
  refine go Try.func12 (k := fun hwf H => ?_)
  have H := aj h0 H
  refine rs (k := rg [1, 2, 3, 4, 8] (k := rs (k := rr (k := rO (k := ro (pre := [_, _]) (k := ?_))))))
  refine RunO.append au au au Try.td22 (by rw [Try.zp53]; rfl) (isEls_none _ _) (isEls_none _ _) (by rw [Try.by53]; decide) (by simp) (v := .sl .clip []) (by unfold aAppend; rw [if_pos rfl]) ?_
  refine rh [1, 2, 3, 4, 8] (k := rs (k := rs (k := rg [1, 2, 3, 4, 8, 21] (k := rc (ht := fun hc0 => ?_) (hf := fun hc0 => ?_)))))
  · refine rs (k := rg [8] (k := rR (k := ?_)))
    refine Ret.pureF (r' := Tab.pv ⟨t.frame, []⟩) 3 (by simp only [Try.f12, go_sem, ↓reduceIte] <;> rfl) (by simp [PV.frz, PV.weak, Tab.pv]) (blw_tab _ _) hwf (fun i hi => ?_) ⟨by simp only [oddF, h0, List.getElem?_nil]; rw [← h0], rfl⟩
    have h0 : ∀ n, (i = s.nxt + n) = False := fun n => eq_false (by omega)
    have h1 : (i = s.nxt) = False := eq_false (by omega)
    simp only [go_sem, Nat.add_assoc, Nat.reduceAdd, ↓reduceIte, h0, h1]
  · cases hc0
set_option maxRecDepth 100000 in
theorem odd_ws {t : Tab} {m : Nat} (hm : m ≤ 1000) (ht : t.few m) {what at_ n : Int} (hwI : I64 what) (haI : I64 at_) (hnI : I64 n) {k : Nat} (hkw : withinI at_ 0 (t.tens.length - 1) = k) (hkl : k < t.tens.length) {x : Ten} (hxe : t.tens[k] = x) (hwe : x.wins ≠ []) (hse : x.slts ≠ []) {s : St} : ACalls Try.prog 12 [t.pv, .int .i64 what, .int .i64 at_, .int .i64 n] s (fun r s' => r = (oddF t what at_ n).pv ∧ s' = s) := by
  refine go Try.func12 (k := fun hwf H => ?_)
  have hnt := ht.nt
  have hxm : x ∈ t.tens := by rw [← hxe]; exact List.getElem_mem _
  have hnw := ht.nw x hxm
  have hns := ht.ns x hxm
  have hte : t.tens ≠ [] := fun h => by rw [h] at hkl; simp at hkl
  have hxx : (t.tens.map Ten.pv)[k]? = some (.agg [.int .i64 (x).unit, .int .u32 (x).fns, .int .i64 (x).queue, .sl .unk ((x).wins.map Win.pv), .sl .unk ((x).slts.map Slt.pv)]) := by rw [map_get hkl, hxe]; rfl
  have hgs : ∀ X, ((t.tens.map Ten.pv).set k X)[k]? = some X := fun X => by rw [List.getElem?_set]; simp [hkl]
  have hwl : IntKind.i64.wrap ((t.tens.length : Int) - 1) = (t.tens.length : Int) - 1 := wrap_i64 (by omega)
  have htl0 : ((t.tens.length : Int) = 0) = False := eq_false (by omega)
  have hk2 : ((k : Int) < (t.tens.length : Int)) = True := eq_true (by omega)
  have H := aj hgs (aj hwl (aj hkw (aj hk2 (aj htl0 H))))
  refine rs (k := rg [1, 2, 3, 4, 8] (k := rs (k := rr (k := rO (k := ro (pre := [_, _]) (k := ?_))))))
  refine RunO.appendFirst au au au Try.td22 (by rw [Try.zp53]; rfl) (isEls_none _ _) (isEls_map (f := Ten.pv) (fun a => ⟨rfl, by rw [Try.cz53]; rfl⟩) _) (by rw [Try.by53]; decide) (by rw [Try.by53]; simp; omega) (by simp only [aAppendFirst, List.map_eq_nil_iff, ne_eq, hte, not_false_eq_true, if_true, List.length_nil, Nat.zero_add, List.length_map, List.nil_append, go_sem]; rfl) ?_
  refine rh [1, 2, 3, 4, 8] (k := rs (k := rs (k := rg [1, 2, 3, 4, 8, 21] (k := rc (ht := fun hc0 => ?_) (hf := fun hc0 => ?_)))))
  · cases hc0
  · have hc := hc0
    refine rk (k := rs (k := rr (k := ro (pre := [_, _, _, _, _]) (k := rC (h := within_ (lo := 0) (hi := (t.tens.length : Int) - 1) (by decide) (by omega) (by omega)) (k := rh [1, 2, 3, 4, 8, 9] (k := rs (k := rg [1, 2, 3, 4, 8, 10] (k := rs (k := ?_)))))))))
    have H := aj hxx H
    refine rr (k := ro (pre := [_]) (k := rO (k := ro (pre := [_, _, _, _]) (k := ?_))))
    refine RunO.appendFirst au au au Try.td50 (by rw [Try.zp65]; rfl) (isEls_none _ _) (isEls_map (f := Win.pv) (fun a => ⟨rfl, by rw [Try.cz65]; rfl⟩) _) (by rw [Try.by65]; decide) (by rw [Try.by65]; simp; omega) (by simp only [aAppendFirst, List.map_eq_nil_iff, ne_eq, hwe, not_false_eq_true, if_true, List.length_nil, Nat.zero_add, List.length_map, List.nil_append, go_sem]; rfl) ?_
    refine rh [1, 2, 3, 4, 8, 10] (k := rs (k := rr (k := ro (pre := [_]) (k := rO (k := ro (pre := [_, _, _, _]) (k := ?_))))))
    refine RunO.appendFirst au au au Try.td51 (by rw [Try.zp60]; rfl) (isEls_none _ _) (isEls_map (f := Slt.pv) (fun a => ⟨rfl, by rw [Try.cz60]; rfl⟩) _) (by rw [Try.by60]; decide) (by rw [Try.by60]; simp; omega) (by simp only [aAppendFirst, List.map_eq_nil_iff, ne_eq, hse, not_false_eq_true, if_true, List.length_nil, Nat.zero_add, List.length_map, List.nil_append, go_sem]; rfl) ?_
    refine rh [1, 2, 3, 4, 8, 10] (k := rs (k := ?_))
    refine Run.abs (fun s1 => Fr s s1 ∧ s1.nxt = s.nxt + 1 + 1 + 1 + 1 + 1 ∧ s1.blk s.nxt = some (.row 24 [.agg [.int .i64 t.frame, .own (s.nxt + 1 + 1) 0 t.tens.length]]) ∧ s1.blk (s.nxt + 1) = some (.row 24 [.agg [.int .i64 0, .sl .nil []]]) ∧ s1.blk (s.nxt + 1 + 1) = some (.row 53 ((t.tens.map Ten.pv).set k (.agg [.int .i64 x.unit, .int .u32 x.fns, .int .i64 x.queue, .own (s.nxt + 1 + 1 + 1) 0 x.wins.length, .own (s.nxt + 1 + 1 + 1 + 1) 0 x.slts.length]))) ∧ s1.blk (s.nxt + 1 + 1 + 1) = some (.row 65 (x.wins.map Win.pv)) ∧ s1.blk (s.nxt + 1 + 1 + 1 + 1) = some (.row 60 (x.slts.map Slt.pv))) ⟨by repeat (first | exact Fr.refl hwf | refine Fr.new ?_ _ | refine Fr.set ?_ (by omega) (by simp only [nxt_new, nxt_set]; omega) _), by simp only [go_sem], by simp only [go_sem, ↓reduceIte, Nat.reduceEqDiff, Nat.reduceAdd], by simp only [go_sem, ↓reduceIte, Nat.reduceEqDiff, Nat.reduceAdd], by simp only [go_sem, ↓reduceIte, Nat.reduceEqDiff, Nat.reduceAdd], by simp only [go_sem, ↓reduceIte, Nat.reduceEqDiff, Nat.reduceAdd], by simp only [go_sem, ↓reduceIte, Nat.reduceEqDiff, Nat.reduceAdd]⟩ ?_
    rintro s1 ⟨F1, hn1, b4, b8, bA, bB, bC⟩
    have hwi0 := withinI_bound (n := n) (lo := 0) (hi := 5) (by decide)
    have hsi0 := withinI_bound (n := n) (lo := 0) (hi := 2) (by decide)
    obtain ⟨wi, hwi⟩ : ∃ y : Nat, withinI n 0 5 = y := ⟨_, (Int.toNat_of_nonneg hwi0.1).symm⟩
    obtain ⟨si, hsi⟩ : ∃ y : Nat, withinI n 0 2 = y := ⟨_, (Int.toNat_of_nonneg hsi0.1).symm⟩
    have z0 : (s.nxt = s1.nxt) = False := eq_false (by omega)
    have z1 : (s.nxt + 1 = s1.nxt) = False := eq_false (by omega)
    have z2 : (s.nxt + 1 + 1 = s1.nxt) = False := eq_false (by omega)
    have z3 : (s.nxt + 1 + 1 + 1 = s1.nxt) = False := eq_false (by omega)
    have z4 : (s.nxt + 1 + 1 + 1 + 1 = s1.nxt) = False := eq_false (by omega)
    have y0 : (s1.nxt = s.nxt) = False := eq_false (by omega)
    have y1 : (s1.nxt = s.nxt + 1) = False := eq_false (by omega)
    have y2 : (s1.nxt = s.nxt + 1 + 1) = False := eq_false (by omega)
    have y3 : (s1.nxt = s.nxt + 1 + 1 + 1) = False := eq_false (by omega)
    have y4 : (s1.nxt = s.nxt + 1 + 1 + 1 + 1) = False := eq_false (by omega)
    have H := aj b4 (aj b8 (aj bA (aj bB (aj bC (aj hwi (aj hsi (aj z0 (aj z1 (aj z2 (aj z3 (aj z4 (aj y0 (aj y1 (aj y2 (aj y3 (aj y4 H))))))))))))))))
    refine rr (k := ro (pre := [_]) (k := rC (h := within_ (lo := 0) (hi := 5) (by decide) (by decide) (by decide)) (k := ro (pre := [_]) (k := rC (h := within_ (lo := 0) (hi := 2) (by decide) (by decide) (by decide)) (k := rh [1, 2, 3, 4, 8, 10, 11, 12] (k := rs (k := rs (k := rr (k := ro (pre := [_]) (k := rC (h := within_ (lo := 0) (hi := 13) (by decide) (by decide) (by decide)) (k := ?_)))))))))))
    refine rl [2, 3, 4, 8, 10, 11, 12, 56] (k := ?_)
    refine Run.join (fun e s' => e = [(4, .ptr s.nxt 0 0), (8, .ptr (s.nxt + 1) 0 0)] ∧ s'.blk (s.nxt + 1) = some (.row 24 [.agg [.int .i64 0, .sl .nil []]]) ∧ OddR s s' (oddF t what at_ n)) ?_ ?_
    · rintro e s2 ⟨rfl, r0, hO⟩
      obtain ⟨A', els, r1, r2, r3, r4, r5⟩ := hO.row
      have H := aj r0 (aj r1 H)
      refine rs (k := rg [8] (k := rR (k := ?_)))
      exact Ret.pureF (r' := (oddF t what at_ n).pv) 7 (by simp only [Try.f12, go_sem, ↓reduceIte, r0, r1] <;> rfl) ((hO.set _).frz (by simp only [go_sem, ↓reduceIte]; exact r1)) (blw_tab _ _) hwf (hO.set _).fr.blk ⟨rfl, rfl⟩
    intro hJb0
    refine rb (k := rs (k := ?_))
    obtain ⟨wv, hwv⟩ : ∃ y, withinI what 0 13 = y := ⟨_, rfl⟩
    have hwb := withinI_bound (n := what) (lo := 0) (hi := 13) (by decide)
    have hodd := oddF_eq hkw hkl hxe hwv hwi hsi (at_ := at_)
    rw [hwv]
    rw [hwv] at hwb
    refine rg [2, 3, 4, 8, 10, 11, 12, 56, 73] (k := rc (ht := fun hc1 => ?_) (hf := fun hc1 => ?_))
    · have hc := hc1
      refine rg [4, 8] (k := rB (k := ?_))
      have hw9 : wv = 0 := by have h := of_decide_eq_true hc1; omega
      subst hw9
      refine rp [4, 8] (k := ?_)
      refine hJb0 _ _ ⟨rfl, au, ?_⟩
      rw [hodd, show oddG t k x 0 wi si at_ n = ⟨n, t.tens.set k (⟨x.unit, x.fns, x.queue, x.wins, x.slts⟩ : Ten)⟩ by simp only [oddG, oddX, Int.reduceEq, reduceCtorEq, ↓reduceIte, List.append_nil]]
      exact odd_done (by repeat (first | exact F1 | refine Fr.new ?_ _ | refine Fr.set ?_ (by omega) (by first | omega | (simp only [nxt_new, nxt_set]; omega)) _)) (by first | omega | (simp only [go_sem]; omega)) au (by omega) au ⟨.own (s.nxt + 1 + 1 + 1) 0 x.wins.length, .own (s.nxt + 1 + 1 + 1 + 1) 0 x.slts.length, rfl, .inr ⟨(s.nxt + 1 + 1 + 1), _, by simp, by omega, (by first | (exact au) | (simp only [List.map_set, List.map_append, List.map_cons, List.map_nil]; exact au))⟩, .inr ⟨(s.nxt + 1 + 1 + 1 + 1), _, by simp, by omega, (by first | (exact au) | (simp only [List.map_set, List.map_append, List.map_cons, List.map_nil]; exact au))⟩⟩
    · have hc := hc1
      refine rs (k := rg [2, 3, 4, 8, 10, 11, 12, 56, 77] (k := rc (ht := fun hc2 => ?_) (hf := fun hc2 => ?_)))
      · have hc := hc2
        refine rg [4, 8] (k := rB (k := ?_))
        have hw9 : wv = 1 := by have h := of_decide_eq_true hc2; omega
        subst hw9
        refine rp [4, 8] (k := ?_)
        refine hJb0 _ _ ⟨rfl, au, ?_⟩
        rw [hodd, show oddG t k x 1 wi si at_ n = ⟨t.frame, t.tens.set k (⟨n, x.fns, x.queue, x.wins, x.slts⟩ : Ten)⟩ by simp only [oddG, oddX, Int.reduceEq, reduceCtorEq, ↓reduceIte, List.append_nil]]
        exact odd_done (by repeat (first | exact F1 | refine Fr.new ?_ _ | refine Fr.set ?_ (by omega) (by first | omega | (simp only [nxt_new, nxt_set]; omega)) _)) (by first | omega | (simp only [go_sem]; omega)) au (by omega) au ⟨.own (s.nxt + 1 + 1 + 1) 0 x.wins.length, .own (s.nxt + 1 + 1 + 1 + 1) 0 x.slts.length, rfl, .inr ⟨(s.nxt + 1 + 1 + 1), _, by simp, by omega, (by first | (exact au) | (simp only [List.map_set, List.map_append, List.map_cons, List.map_nil]; exact au))⟩, .inr ⟨(s.nxt + 1 + 1 + 1 + 1), _, by simp, by omega, (by first | (exact au) | (simp only [List.map_set, List.map_append, List.map_cons, List.map_nil]; exact au))⟩⟩
      · have hc := hc2
        refine rs (k := rg [2, 3, 4, 8, 10, 11, 12, 56, 83] (k := rc (ht := fun hc3 => ?_) (hf := fun hc3 => ?_)))
        · have hc := hc3
          refine rg [4, 8] (k := rB (k := ?_))
          have hw9 : wv = 2 := by have h := of_decide_eq_true hc3; omega
          subst hw9
          refine rp [4, 8] (k := ?_)
          refine hJb0 _ _ ⟨rfl, au, ?_⟩
          rw [hodd, show oddG t k x 2 wi si at_ n = ⟨t.frame, t.tens.set k (⟨x.unit, x.fns, n, x.wins, x.slts⟩ : Ten)⟩ by simp only [oddG, oddX, Int.reduceEq, reduceCtorEq, ↓reduceIte, List.append_nil]]
          exact odd_done (by repeat (first | exact F1 | refine Fr.new ?_ _ | refine Fr.set ?_ (by omega) (by first | omega | (simp only [nxt_new, nxt_set]; omega)) _)) (by first | omega | (simp only [go_sem]; omega)) au (by omega) au ⟨.own (s.nxt + 1 + 1 + 1) 0 x.wins.length, .own (s.nxt + 1 + 1 + 1 + 1) 0 x.slts.length, rfl, .inr ⟨(s.nxt + 1 + 1 + 1), _, by simp, by omega, (by first | (exact au) | (simp only [List.map_set, List.map_append, List.map_cons, List.map_nil]; exact au))⟩, .inr ⟨(s.nxt + 1 + 1 + 1 + 1), _, by simp, by omega, (by first | (exact au) | (simp only [List.map_set, List.map_append, List.map_cons, List.map_nil]; exact au))⟩⟩
        · have hc := hc3
          refine rs (k := rg [2, 3, 4, 8, 10, 11, 12, 56, 89] (k := rc (ht := fun hc4 => ?_) (hf := fun hc4 => ?_)))
          · have hc := hc4
            refine rg [4, 8] (k := rB (k := ?_))
            have hw9 : wv = 3 := by have h := of_decide_eq_true hc4; omega
            subst hw9
            refine rp [4, 8] (k := ?_)
            refine hJb0 _ _ ⟨rfl, au, ?_⟩
            rw [hodd, show oddG t k x 3 wi si at_ n = ⟨t.frame, t.tens.set k (⟨x.unit, IntKind.u32.wrap n, x.queue, x.wins, x.slts⟩ : Ten)⟩ by simp only [oddG, oddX, Int.reduceEq, reduceCtorEq, ↓reduceIte, List.append_nil]]
            exact odd_done (by repeat (first | exact F1 | refine Fr.new ?_ _ | refine Fr.set ?_ (by omega) (by first | omega | (simp only [nxt_new, nxt_set]; omega)) _)) (by first | omega | (simp only [go_sem]; omega)) au (by omega) au ⟨.own (s.nxt + 1 + 1 + 1) 0 x.wins.length, .own (s.nxt + 1 + 1 + 1 + 1) 0 x.slts.length, rfl, .inr ⟨(s.nxt + 1 + 1 + 1), _, by simp, by omega, (by first | (exact au) | (simp only [List.map_set, List.map_append, List.map_cons, List.map_nil]; exact au))⟩, .inr ⟨(s.nxt + 1 + 1 + 1 + 1), _, by simp, by omega, (by first | (exact au) | (simp only [List.map_set, List.map_append, List.map_cons, List.map_nil]; exact au))⟩⟩
          · have hc := hc4
            refine rs (k := rg [2, 3, 4, 8, 10, 11, 12, 56, 96] (k := rc (ht := fun hc5 => ?_) (hf := fun hc5 => ?_)))
            · have hc := hc5
              refine rr (k := ro (pre := [_, _, _, _, _, _, _]) (k := rO (k := ?_)))
              refine RunO.appendOwn au au au Try.td51 (by rw [Try.zp60]; rfl) (isEls_map (f := Slt.pv) (fun a => ⟨rfl, by rw [Try.cz60]; rfl⟩) [⟨n, 72⟩]) (by rw [Try.by60]; decide) (by rw [Try.by60]; simp; omega) (v := .own s1.nxt 0 (x.slts.length + 1)) (s' := (s1.set (s.nxt + 1 + 1 + 1 + 1) none).new (.row 60 (x.slts.map Slt.pv ++ [.agg [.int .i64 n, .int .i64 72]]))) (by unfold aAppendOwn; rw [bC]; simp only [ne_eq, List.cons_ne_nil, not_false_eq_true, List.length_map, Nat.le_refl, and_self, if_true, List.length_cons, List.length_nil, Nat.zero_add]; rw [List.take_of_length_le (by rw [List.length_map]; exact Nat.le_refl _)]; rfl) ?_
              refine rh [4, 8] (k := rB (k := ?_))
              have hw9 : wv = 4 := by have h := of_decide_eq_true hc5; omega
              subst hw9
              refine rp [4, 8] (k := ?_)
              refine hJb0 _ _ ⟨rfl, au, ?_⟩
              rw [hodd, show oddG t k x 4 wi si at_ n = ⟨t.frame, t.tens.set k (⟨x.unit, x.fns, x.queue, x.wins, x.slts ++ [⟨n, 72⟩]⟩ : Ten)⟩ by simp only [oddG, oddX, Int.reduceEq, reduceCtorEq, ↓reduceIte, List.append_nil]]
              exact odd_done (by repeat (first | exact F1 | refine Fr.new ?_ _ | refine Fr.set ?_ (by omega) (by first | omega | (simp only [nxt_new, nxt_set]; omega)) _)) (by first | omega | (simp only [go_sem]; omega)) au (by omega) au ⟨.own (s.nxt + 1 + 1 + 1) 0 x.wins.length, .own s1.nxt 0 (x.slts.length + 1), rfl, .inr ⟨(s.nxt + 1 + 1 + 1), _, by simp, by omega, (by first | (exact au) | (simp only [List.map_set, List.map_append, List.map_cons, List.map_nil]; exact au))⟩, .inr ⟨s1.nxt, _, by simp, by omega, (by first | (exact au) | (simp only [List.map_set, List.map_append, List.map_cons, List.map_nil]; exact au))⟩⟩
            · have hc := hc5
              refine rs (k := rg [2, 3, 4, 8, 10, 11, 12, 56, 109] (k := rc (ht := fun hc6 => ?_) (hf := fun hc6 => ?_)))
              · have hc := hc6
                have hb0 := ibits_and_le n 3 (by decide)
                have hb1 := ibits_and_le at_ 1023 (by decide)
                have hb2 := ibits_and_le n 511 (by decide)
                have hb3 := ibits_and_le at_ 31 (by decide)
                obtain ⟨g0, hg0⟩ : ∃ y, ibits .and .i64 n 3 = y := ⟨_, rfl⟩
                obtain ⟨g1, hg1⟩ : ∃ y, ibits .and .i64 at_ 1023 = y := ⟨_, rfl⟩
                obtain ⟨g2, hg2⟩ : ∃ y, ibits .and .i64 n 511 = y := ⟨_, rfl⟩
                obtain ⟨g4, hg4⟩ : ∃ y, ibits .and .i64 at_ 31 = y := ⟨_, rfl⟩
                have hb0 : 0 ≤ g0 ∧ g0 ≤ 3 := hg0 ▸ hb0
                have hb1 : 0 ≤ g1 ∧ g1 ≤ 1023 := hg1 ▸ hb1
                have hb2 : 0 ≤ g2 ∧ g2 ≤ 511 := hg2 ▸ hb2
                have hb3 : 0 ≤ g4 ∧ g4 ≤ 31 := hg4 ▸ hb3
                have hg3 : IntKind.i64.wrap (1 + g4) = 1 + g4 := wrap_i64 (by omega)
                have H := aj hg0 (aj hg1 (aj hg2 (aj hg4 (aj hg3 H))))
                refine rr (k := ro (pre := [_, _, _, _, _, _, _, _, _, _, _, _, _, _, _]) (k := rO (k := ?_)))
                refine RunO.appendOwn au au au Try.td50 (by rw [Try.zp65]; rfl) (isEls_map (f := Win.pv) (fun a => ⟨rfl, by rw [Try.cz65]; rfl⟩) [⟨g0, g1, g2, 1 + g4⟩]) (by rw [Try.by65]; decide) (by rw [Try.by65]; simp; omega) (v := .own s1.nxt 0 (x.wins.length + 1)) (s' := (s1.set (s.nxt + 1 + 1 + 1) none).new (.row 65 (x.wins.map Win.pv ++ [.agg [.int .i64 g0, .int .i64 g1, .int .i64 g2, .int .i64 (1 + g4)]]))) (by unfold aAppendOwn; rw [bB]; simp only [ne_eq, List.cons_ne_nil, not_false_eq_true, List.length_map, Nat.le_refl, and_self, if_true, List.length_cons, List.length_nil, Nat.zero_add]; rw [List.take_of_length_le (by rw [List.length_map]; exact Nat.le_refl _)]; rfl) ?_
                refine rh [4, 8] (k := rB (k := ?_))
                have hw9 : wv = 5 := by have h := of_decide_eq_true hc6; omega
                subst hw9
                refine rp [4, 8] (k := ?_)
                refine hJb0 _ _ ⟨rfl, au, ?_⟩
                rw [hodd, show oddG t k x 5 wi si at_ n = ⟨t.frame, t.tens.set k (⟨x.unit, x.fns, x.queue, x.wins ++ [⟨g0, g1, g2, 1 + g4⟩], x.slts⟩ : Ten)⟩ by simp only [oddG, oddX, Int.reduceEq, reduceCtorEq, ↓reduceIte, List.append_nil, hg0, hg1, hg2, hg4]]
                exact odd_done (by repeat (first | exact F1 | refine Fr.new ?_ _ | refine Fr.set ?_ (by omega) (by first | omega | (simp only [nxt_new, nxt_set]; omega)) _)) (by first | omega | (simp only [go_sem]; omega)) au (by omega) au ⟨.own s1.nxt 0 (x.wins.length + 1), .own (s.nxt + 1 + 1 + 1 + 1) 0 x.slts.length, rfl, .inr ⟨s1.nxt, _, by simp, by omega, (by first | (exact au) | (simp only [List.map_set, List.map_append, List.map_cons, List.map_nil]; exact au))⟩, .inr ⟨(s.nxt + 1 + 1 + 1 + 1), _, by simp, by omega, (by first | (exact au) | (simp only [List.map_set, List.map_append, List.map_cons, List.map_nil]; exact au))⟩⟩
              · have hc := hc6
                refine rs (k := rg [3, 4, 8, 10, 11, 12, 56, 130] (k := rc (ht := fun hc7 => ?_) (hf := fun hc7 => ?_)))
                · have hc := hc7
                  refine rs (k := rg [3, 4, 8, 10, 11, 138] (k := rc (ht := fun hc8 => ?_) (hf := fun hc8 => ?_)))
                  · have hc := hc8
                    have hwl2 : wi < x.wins.length := by have := of_decide_eq_true hc; omega
                    have hwi1 : ((wi : Int) < (x.wins.length : Int)) = True := eq_true (by omega)
                    obtain ⟨w, hwe⟩ : ∃ z_, x.wins[wi]'hwl2 = z_ := ⟨_, rfl⟩
                    have hxw : (x.wins.map Win.pv)[wi]? = some (.agg [.int .i64 (w).space, .int .i64 (w).virt, .int .i64 (w).phys, .int .i64 (w).cnt]) := by rw [map_get hwl2, hwe]; rfl
                    have H := aj hwi1 (aj hxw H)
                    refine rg [4, 8] (k := rB (k := ?_))
                    have hw9 : wv = 6 := by have h := of_decide_eq_true hc7; omega
                    subst hw9
                    refine rp [4, 8] (k := ?_)
                    refine hJb0 _ _ ⟨rfl, au, ?_⟩
                    rw [hodd, show oddG t k x 6 wi si at_ n = ⟨t.frame, t.tens.set k (⟨x.unit, x.fns, x.queue, x.wins.set wi ⟨w.space, w.virt, n, w.cnt⟩, x.slts⟩ : Ten)⟩ by simp only [oddG, oddX, Int.reduceEq, reduceCtorEq, ↓reduceIte, List.append_nil, modF_lt hwl2 hwe]]
                    exact odd_done (by repeat (first | exact F1 | refine Fr.new ?_ _ | refine Fr.set ?_ (by omega) (by first | omega | (simp only [nxt_new, nxt_set]; omega)) _)) (by first | omega | (simp only [go_sem]; omega)) au (by omega) au ⟨.own (s.nxt + 1 + 1 + 1) 0 x.wins.length, .own (s.nxt + 1 + 1 + 1 + 1) 0 x.slts.length, rfl, .inr ⟨(s.nxt + 1 + 1 + 1), _, by simp, by omega, (by first | (exact au) | (simp only [List.map_set, List.map_append, List.map_cons, List.map_nil]; exact au))⟩, .inr ⟨(s.nxt + 1 + 1 + 1 + 1), _, by simp, by omega, (by first | (exact au) | (simp only [List.map_set, List.map_append, List.map_cons, List.map_nil]; exact au))⟩⟩
                  · have hc := hc8
                    refine rk (k := rB (k := ?_))
                    have hw9 : wv = 6 := by have h := of_decide_eq_true hc7; omega
                    subst hw9
                    refine rp [4, 8] (k := ?_)
                    refine hJb0 _ _ ⟨rfl, au, ?_⟩
                    rw [hodd, show oddG t k x 6 wi si at_ n = ⟨t.frame, t.tens.set k (⟨x.unit, x.fns, x.queue, x.wins, x.slts⟩ : Ten)⟩ by simp only [oddG, oddX, Int.reduceEq, reduceCtorEq, ↓reduceIte, List.append_nil, modF_ge (show x.wins.length ≤ wi by have := of_decide_eq_false hc8; first | omega | simp_all)]]
                    exact odd_done (by repeat (first | exact F1 | refine Fr.new ?_ _ | refine Fr.set ?_ (by omega) (by first | omega | (simp only [nxt_new, nxt_set]; omega)) _)) (by first | omega | (simp only [go_sem]; omega)) au (by omega) au ⟨.own (s.nxt + 1 + 1 + 1) 0 x.wins.length, .own (s.nxt + 1 + 1 + 1 + 1) 0 x.slts.length, rfl, .inr ⟨(s.nxt + 1 + 1 + 1), _, by simp, by omega, (by first | (exact au) | (simp only [List.map_set, List.map_append, List.map_cons, List.map_nil]; exact au))⟩, .inr ⟨(s.nxt + 1 + 1 + 1 + 1), _, by simp, by omega, (by first | (exact au) | (simp only [List.map_set, List.map_append, List.map_cons, List.map_nil]; exact au))⟩⟩
                · have hc := hc7
                  refine rs (k := rg [3, 4, 8, 10, 11, 12, 56, 147] (k := rc (ht := fun hc9 => ?_) (hf := fun hc9 => ?_)))
                  · have hc := hc9
                    refine rs (k := rg [3, 4, 8, 10, 11, 155] (k := rc (ht := fun hc10 => ?_) (hf := fun hc10 => ?_)))
                    · have hc := hc10
                      have hwl2 : wi < x.wins.length := by have := of_decide_eq_true hc; omega
                      have hwi1 : ((wi : Int) < (x.wins.length : Int)) = True := eq_true (by omega)
                      obtain ⟨w, hwe⟩ : ∃ z_, x.wins[wi]'hwl2 = z_ := ⟨_, rfl⟩
                      have hxw : (x.wins.map Win.pv)[wi]? = some (.agg [.int .i64 (w).space, .int .i64 (w).virt, .int .i64 (w).phys, .int .i64 (w).cnt]) := by rw [map_get hwl2, hwe]; rfl
                      have H := aj hwi1 (aj hxw H)
                      refine rg [4, 8] (k := rB (k := ?_))
                      have hw9 : wv = 7 := by have h := of_decide_eq_true hc9; omega
                      subst hw9
                      refine rp [4, 8] (k := ?_)
                      refine hJb0 _ _ ⟨rfl, au, ?_⟩
                      rw [hodd, show oddG t k x 7 wi si at_ n = ⟨t.frame, t.tens.set k (⟨x.unit, x.fns, x.queue, x.wins.set wi ⟨w.space, n, w.phys, w.cnt⟩, x.slts⟩ : Ten)⟩ by simp only [oddG, oddX, Int.reduceEq, reduceCtorEq, ↓reduceIte, List.append_nil, modF_lt hwl2 hwe]]
                      exact odd_done (by repeat (first | exact F1 | refine Fr.new ?_ _ | refine Fr.set ?_ (by omega) (by first | omega | (simp only [nxt_new, nxt_set]; omega)) _)) (by first | omega | (simp only [go_sem]; omega)) au (by omega) au ⟨.own (s.nxt + 1 + 1 + 1) 0 x.wins.length, .own (s.nxt + 1 + 1 + 1 + 1) 0 x.slts.length, rfl, .inr ⟨(s.nxt + 1 + 1 + 1), _, by simp, by omega, (by first | (exact au) | (simp only [List.map_set, List.map_append, List.map_cons, List.map_nil]; exact au))⟩, .inr ⟨(s.nxt + 1 + 1 + 1 + 1), _, by simp, by omega, (by first | (exact au) | (simp only [List.map_set, List.map_append, List.map_cons, List.map_nil]; exact au))⟩⟩
                    · have hc := hc10
                      refine rk (k := rB (k := ?_))
                      have hw9 : wv = 7 := by have h := of_decide_eq_true hc9; omega
                      subst hw9
                      refine rp [4, 8] (k := ?_)
                      refine hJb0 _ _ ⟨rfl, au, ?_⟩
                      rw [hodd, show oddG t k x 7 wi si at_ n = ⟨t.frame, t.tens.set k (⟨x.unit, x.fns, x.queue, x.wins, x.slts⟩ : Ten)⟩ by simp only [oddG, oddX, Int.reduceEq, reduceCtorEq, ↓reduceIte, List.append_nil, modF_ge (show x.wins.length ≤ wi by have := of_decide_eq_false hc10; first | omega | simp_all)]]
                      exact odd_done (by repeat (first | exact F1 | refine Fr.new ?_ _ | refine Fr.set ?_ (by omega) (by first | omega | (simp only [nxt_new, nxt_set]; omega)) _)) (by first | omega | (simp only [go_sem]; omega)) au (by omega) au ⟨.own (s.nxt + 1 + 1 + 1) 0 x.wins.length, .own (s.nxt + 1 + 1 + 1 + 1) 0 x.slts.length, rfl, .inr ⟨(s.nxt + 1 + 1 + 1), _, by simp, by omega, (by first | (exact au) | (simp only [List.map_set, List.map_append, List.map_cons, List.map_nil]; exact au))⟩, .inr ⟨(s.nxt + 1 + 1 + 1 + 1), _, by simp, by omega, (by first | (exact au) | (simp only [List.map_set, List.map_append, List.map_cons, List.map_nil]; exact au))⟩⟩
                  · have hc := hc9
                    refine rs (k := rg [3, 4, 8, 10, 11, 12, 56, 164] (k := rc (ht := fun hc11 => ?_) (hf := fun hc11 => ?_)))
                    · have hc := hc11
                      refine rs (k := rg [3, 4, 8, 10, 11, 172] (k := rc (ht := fun hc12 => ?_) (hf := fun hc12 => ?_)))
                      · have hc := hc12
                        have hwl2 : wi < x.wins.length := by have := of_decide_eq_true hc; omega
                        have hwi1 : ((wi : Int) < (x.wins.length : Int)) = True := eq_true (by omega)
                        obtain ⟨w, hwe⟩ : ∃ z_, x.wins[wi]'hwl2 = z_ := ⟨_, rfl⟩
                        have hxw : (x.wins.map Win.pv)[wi]? = some (.agg [.int .i64 (w).space, .int .i64 (w).virt, .int .i64 (w).phys, .int .i64 (w).cnt]) := by rw [map_get hwl2, hwe]; rfl
                        have H := aj hwi1 (aj hxw H)
                        refine rg [4, 8] (k := rB (k := ?_))
                        have hw9 : wv = 8 := by have h := of_decide_eq_true hc11; omega
                        subst hw9
                        refine rp [4, 8] (k := ?_)
                        refine hJb0 _ _ ⟨rfl, au, ?_⟩
                        rw [hodd, show oddG t k x 8 wi si at_ n = ⟨t.frame, t.tens.set k (⟨x.unit, x.fns, x.queue, x.wins.set wi ⟨w.space, w.virt, w.phys, n⟩, x.slts⟩ : Ten)⟩ by simp only [oddG, oddX, Int.reduceEq, reduceCtorEq, ↓reduceIte, List.append_nil, modF_lt hwl2 hwe]]
                        exact odd_done (by repeat (first | exact F1 | refine Fr.new ?_ _ | refine Fr.set ?_ (by omega) (by first | omega | (simp only [nxt_new, nxt_set]; omega)) _)) (by first | omega | (simp only [go_sem]; omega)) au (by omega) au ⟨.own (s.nxt + 1 + 1 + 1) 0 x.wins.length, .own (s.nxt + 1 + 1 + 1 + 1) 0 x.slts.length, rfl, .inr ⟨(s.nxt + 1 + 1 + 1), _, by simp, by omega, (by first | (exact au) | (simp only [List.map_set, List.map_append, List.map_cons, List.map_nil]; exact au))⟩, .inr ⟨(s.nxt + 1 + 1 + 1 + 1), _, by simp, by omega, (by first | (exact au) | (simp only [List.map_set, List.map_append, List.map_cons, List.map_nil]; exact au))⟩⟩
                      · have hc := hc12
                        refine rk (k := rB (k := ?_))
                        have hw9 : wv = 8 := by have h := of_decide_eq_true hc11; omega
                        subst hw9
                        refine rp [4, 8] (k := ?_)
                        refine hJb0 _ _ ⟨rfl, au, ?_⟩
                        rw [hodd, show oddG t k x 8 wi si at_ n = ⟨t.frame, t.tens.set k (⟨x.unit, x.fns, x.queue, x.wins, x.slts⟩ : Ten)⟩ by simp only [oddG, oddX, Int.reduceEq, reduceCtorEq, ↓reduceIte, List.append_nil, modF_ge (show x.wins.length ≤ wi by have := of_decide_eq_false hc12; first | omega | simp_all)]]
                        exact odd_done (by repeat (first | exact F1 | refine Fr.new ?_ _ | refine Fr.set ?_ (by omega) (by first | omega | (simp only [nxt_new, nxt_set]; omega)) _)) (by first | omega | (simp only [go_sem]; omega)) au (by omega) au ⟨.own (s.nxt + 1 + 1 + 1) 0 x.wins.length, .own (s.nxt + 1 + 1 + 1 + 1) 0 x.slts.length, rfl, .inr ⟨(s.nxt + 1 + 1 + 1), _, by simp, by omega, (by first | (exact au) | (simp only [List.map_set, List.map_append, List.map_cons, List.map_nil]; exact au))⟩, .inr ⟨(s.nxt + 1 + 1 + 1 + 1), _, by simp, by omega, (by first | (exact au) | (simp only [List.map_set, List.map_append, List.map_cons, List.map_nil]; exact au))⟩⟩
                    · have hc := hc11
                      refine rs (k := rg [3, 4, 8, 10, 11, 12, 56, 181] (k := rc (ht := fun hc13 => ?_) (hf := fun hc13 => ?_)))
                      · have hc := hc13
                        refine rs (k := rg [3, 4, 8, 10, 12, 189] (k := rc (ht := fun hc14 => ?_) (hf := fun hc14 => ?_)))
                        · have hc := hc14
                          have hsl2 : si < x.slts.length := by have := of_decide_eq_true hc; omega
                          have hsi1 : ((si : Int) < (x.slts.length : Int)) = True := eq_true (by omega)
                          obtain ⟨a, hae⟩ : ∃ z_, x.slts[si]'hsl2 = z_ := ⟨_, rfl⟩
                          have hxa : (x.slts.map Slt.pv)[si]? = some (.agg [.int .i64 (a).pos, .int .i64 (a).len]) := by rw [map_get hsl2, hae]; rfl
                          have H := aj hsi1 (aj hxa H)
                          refine rg [4, 8] (k := rB (k := ?_))
                          have hw9 : wv = 9 := by have h := of_decide_eq_true hc13; omega
                          subst hw9
                          refine rp [4, 8] (k := ?_)
                          refine hJb0 _ _ ⟨rfl, au, ?_⟩
                          rw [hodd, show oddG t k x 9 wi si at_ n = ⟨t.frame, t.tens.set k (⟨x.unit, x.fns, x.queue, x.wins, x.slts.set si ⟨n, a.len⟩⟩ : Ten)⟩ by simp only [oddG, oddX, Int.reduceEq, reduceCtorEq, ↓reduceIte, List.append_nil, modF_lt hsl2 hae]]
                          exact odd_done (by repeat (first | exact F1 | refine Fr.new ?_ _ | refine Fr.set ?_ (by omega) (by first | omega | (simp only [nxt_new, nxt_set]; omega)) _)) (by first | omega | (simp only [go_sem]; omega)) au (by omega) au ⟨.own (s.nxt + 1 + 1 + 1) 0 x.wins.length, .own (s.nxt + 1 + 1 + 1 + 1) 0 x.slts.length, rfl, .inr ⟨(s.nxt + 1 + 1 + 1), _, by simp, by omega, (by first | (exact au) | (simp only [List.map_set, List.map_append, List.map_cons, List.map_nil]; exact au))⟩, .inr ⟨(s.nxt + 1 + 1 + 1 + 1), _, by simp, by omega, (by first | (exact au) | (simp only [List.map_set, List.map_append, List.map_cons, List.map_nil]; exact au))⟩⟩
                        · have hc := hc14
                          refine rk (k := rB (k := ?_))
                          have hw9 : wv = 9 := by have h := of_decide_eq_true hc13; omega
                          subst hw9
                          refine rp [4, 8] (k := ?_)
                          refine hJb0 _ _ ⟨rfl, au, ?_⟩
                          rw [hodd, show oddG t k x 9 wi si at_ n = ⟨t.frame, t.tens.set k (⟨x.unit, x.fns, x.queue, x.wins, x.slts⟩ : Ten)⟩ by simp only [oddG, oddX, Int.reduceEq, reduceCtorEq, ↓reduceIte, List.append_nil, modF_ge (show x.slts.length ≤ si by have := of_decide_eq_false hc14; first | omega | simp_all)]]
                          exact odd_done (by repeat (first | exact F1 | refine Fr.new ?_ _ | refine Fr.set ?_ (by omega) (by first | omega | (simp only [nxt_new, nxt_set]; omega)) _)) (by first | omega | (simp only [go_sem]; omega)) au (by omega) au ⟨.own (s.nxt + 1 + 1 + 1) 0 x.wins.length, .own (s.nxt + 1 + 1 + 1 + 1) 0 x.slts.length, rfl, .inr ⟨(s.nxt + 1 + 1 + 1), _, by simp, by omega, (by first | (exact au) | (simp only [List.map_set, List.map_append, List.map_cons, List.map_nil]; exact au))⟩, .inr ⟨(s.nxt + 1 + 1 + 1 + 1), _, by simp, by omega, (by first | (exact au) | (simp only [List.map_set, List.map_append, List.map_cons, List.map_nil]; exact au))⟩⟩
                      · have hc := hc13
                        refine rs (k := rg [3, 4, 8, 10, 11, 12, 56, 198] (k := rc (ht := fun hc15 => ?_) (hf := fun hc15 => ?_)))
                        · have hc := hc15
                          refine rs (k := rg [3, 4, 8, 10, 12, 206] (k := rc (ht := fun hc16 => ?_) (hf := fun hc16 => ?_)))
                          · have hc := hc16
                            have hsl2 : si < x.slts.length := by have := of_decide_eq_true hc; omega
                            have hsi1 : ((si : Int) < (x.slts.length : Int)) = True := eq_true (by omega)
                            obtain ⟨a, hae⟩ : ∃ z_, x.slts[si]'hsl2 = z_ := ⟨_, rfl⟩
                            have hxa : (x.slts.map Slt.pv)[si]? = some (.agg [.int .i64 (a).pos, .int .i64 (a).len]) := by rw [map_get hsl2, hae]; rfl
                            have H := aj hsi1 (aj hxa H)
                            refine rg [4, 8] (k := rB (k := ?_))
                            have hw9 : wv = 10 := by have h := of_decide_eq_true hc15; omega
                            subst hw9
                            refine rp [4, 8] (k := ?_)
                            refine hJb0 _ _ ⟨rfl, au, ?_⟩
                            rw [hodd, show oddG t k x 10 wi si at_ n = ⟨t.frame, t.tens.set k (⟨x.unit, x.fns, x.queue, x.wins, x.slts.set si ⟨a.pos, n⟩⟩ : Ten)⟩ by simp only [oddG, oddX, Int.reduceEq, reduceCtorEq, ↓reduceIte, List.append_nil, modF_lt hsl2 hae]]
                            exact odd_done (by repeat (first | exact F1 | refine Fr.new ?_ _ | refine Fr.set ?_ (by omega) (by first | omega | (simp only [nxt_new, nxt_set]; omega)) _)) (by first | omega | (simp only [go_sem]; omega)) au (by omega) au ⟨.own (s.nxt + 1 + 1 + 1) 0 x.wins.length, .own (s.nxt + 1 + 1 + 1 + 1) 0 x.slts.length, rfl, .inr ⟨(s.nxt + 1 + 1 + 1), _, by simp, by omega, (by first | (exact au) | (simp only [List.map_set, List.map_append, List.map_cons, List.map_nil]; exact au))⟩, .inr ⟨(s.nxt + 1 + 1 + 1 + 1), _, by simp, by omega, (by first | (exact au) | (simp only [List.map_set, List.map_append, List.map_cons, List.map_nil]; exact au))⟩⟩
                          · have hc := hc16
                            refine rk (k := rB (k := ?_))
                            have hw9 : wv = 10 := by have h := of_decide_eq_true hc15; omega
                            subst hw9
                            refine rp [4, 8] (k := ?_)
                            refine hJb0 _ _ ⟨rfl, au, ?_⟩
                            rw [hodd, show oddG t k x 10 wi si at_ n = ⟨t.frame, t.tens.set k (⟨x.unit, x.fns, x.queue, x.wins, x.slts⟩ : Ten)⟩ by simp only [oddG, oddX, Int.reduceEq, reduceCtorEq, ↓reduceIte, List.append_nil, modF_ge (show x.slts.length ≤ si by have := of_decide_eq_false hc16; first | omega | simp_all)]]
                            exact odd_done (by repeat (first | exact F1 | refine Fr.new ?_ _ | refine Fr.set ?_ (by omega) (by first | omega | (simp only [nxt_new, nxt_set]; omega)) _)) (by first | omega | (simp only [go_sem]; omega)) au (by omega) au ⟨.own (s.nxt + 1 + 1 + 1) 0 x.wins.length, .own (s.nxt + 1 + 1 + 1 + 1) 0 x.slts.length, rfl, .inr ⟨(s.nxt + 1 + 1 + 1), _, by simp, by omega, (by first | (exact au) | (simp only [List.map_set, List.map_append, List.map_cons, List.map_nil]; exact au))⟩, .inr ⟨(s.nxt + 1 + 1 + 1 + 1), _, by simp, by omega, (by first | (exact au) | (simp only [List.map_set, List.map_append, List.map_cons, List.map_nil]; exact au))⟩⟩
                        · have hc := hc15
                          refine rs (k := rg [3, 4, 8, 10, 11, 56, 215] (k := rc (ht := fun hc17 => ?_) (hf := fun hc17 => ?_)))
                          · have hc := hc17
                            refine Run.drawCut 6 [] Try.mixed (by kernel_rfl) (by kernel_rfl) ?_
                            refine DetC.all au ?_
                            refine RunO.appendOwn au au au Try.td22 (by rw [Try.zp53]; rfl) (fun p hp => by rw [List.mem_singleton.1 hp]; exact ⟨rfl, by rw [Try.cz53]; rfl⟩) (by rw [Try.by53]; decide) (by rw [Try.by53]; simp; omega) (v := .own s1.nxt 0 (t.tens.length + 1)) (s' := (s1.set (s.nxt + 1 + 1) none).new (.row 53 ((t.tens.map Ten.pv).set k (.agg [.int .i64 x.unit, .int .u32 x.fns, .int .i64 x.queue, .own (s.nxt + 1 + 1 + 1) 0 x.wins.length, .own (s.nxt + 1 + 1 + 1 + 1) 0 x.slts.length]) ++ [.agg [.int .i64 x.unit, .int .u32 x.fns, .int .i64 x.queue, .own (s.nxt + 1 + 1 + 1) 0 x.wins.length, .own (s.nxt + 1 + 1 + 1 + 1) 0 x.slts.length]]))) (by unfold aAppendOwn; rw [bA]; simp only [ne_eq, List.cons_ne_nil, not_false_eq_true, List.length_set, List.length_map, Nat.le_refl, and_self, if_true, List.length_cons, List.length_nil, Nat.zero_add]; rw [List.take_of_length_le (by simp)]) ?_
                            refine rh [4, 8] (k := rB (k := ?_))
                            have hw9 : wv = 11 := by have h := of_decide_eq_true hc17; omega
                            subst hw9
                            refine rp [4, 8] (k := ?_)
                            refine hJb0 _ _ ⟨rfl, au, ?_⟩
                            rw [hodd, show oddG t k x 11 wi si at_ n = ⟨t.frame, t.tens.set k (⟨x.unit, x.fns, x.queue, x.wins, x.slts⟩ : Ten) ++ [(⟨x.unit, x.fns, x.queue, x.wins, x.slts⟩ : Ten)]⟩ by simp only [oddG, oddX, Int.reduceEq, reduceCtorEq, ↓reduceIte, List.append_nil]]
                            exact odd_app (by repeat (first | exact F1 | refine Fr.new ?_ _ | refine Fr.set ?_ (by omega) (by first | omega | (simp only [nxt_new, nxt_set]; omega)) _)) (by first | omega | (simp only [go_sem]; omega)) au (by omega) au ⟨.own (s.nxt + 1 + 1 + 1) 0 x.wins.length, .own (s.nxt + 1 + 1 + 1 + 1) 0 x.slts.length, rfl, .inr ⟨(s.nxt + 1 + 1 + 1), _, by simp, by omega, (by first | (exact au) | (simp only [List.map_set, List.map_append, List.map_cons, List.map_nil]; exact au))⟩, .inr ⟨(s.nxt + 1 + 1 + 1 + 1), _, by simp, by omega, (by first | (exact au) | (simp only [List.map_set, List.map_append, List.map_cons, List.map_nil]; exact au))⟩⟩
                          · have hc := hc17
                            refine rs (k := rg [3, 4, 8, 10, 11, 225] (k := rc (ht := fun hc18 => ?_) (hf := fun hc18 => ?_)))
                            · have hc := hc18
                              refine rg [4, 8] (k := rB (k := ?_))
                              have hw9 : wv = 12 := by have h := of_decide_eq_true hc18; omega
                              subst hw9
                              refine rp [4, 8] (k := ?_)
                              refine hJb0 _ _ ⟨rfl, au, ?_⟩
                              rw [hodd, show oddG t k x 12 wi si at_ n = ⟨t.frame, t.tens.set k (⟨x.unit, x.fns, x.queue, x.wins, []⟩ : Ten)⟩ by simp only [oddG, oddX, Int.reduceEq, reduceCtorEq, ↓reduceIte, List.append_nil]]
                              exact odd_done (by repeat (first | exact F1 | refine Fr.new ?_ _ | refine Fr.set ?_ (by omega) (by first | omega | (simp only [nxt_new, nxt_set]; omega)) _)) (by first | omega | (simp only [go_sem]; omega)) au (by omega) au ⟨.own (s.nxt + 1 + 1 + 1) 0 x.wins.length, .sl .nil [], rfl, .inr ⟨(s.nxt + 1 + 1 + 1), _, by simp, by omega, (by first | (exact au) | (simp only [List.map_set, List.map_append, List.map_cons, List.map_nil]; exact au))⟩, .inl ⟨.nil, rfl⟩⟩
                            · have hc := hc18
                              refine rs (k := rg [3, 4, 8, 10, 11, 63] (k := rc (ht := fun hc19 => ?_) (hf := fun hc19 => ?_)))
                              · have hc := hc19
                                have hwl2 : wi < x.wins.length := by have := of_decide_eq_true hc; omega
                                have hwi1 : ((wi : Int) < (x.wins.length : Int)) = True := eq_true (by omega)
                                obtain ⟨w, hwe⟩ : ∃ z_, x.wins[wi]'hwl2 = z_ := ⟨_, rfl⟩
                                have hxw : (x.wins.map Win.pv)[wi]? = some (.agg [.int .i64 (w).space, .int .i64 (w).virt, .int .i64 (w).phys, .int .i64 (w).cnt]) := by rw [map_get hwl2, hwe]; rfl
                                have hb7 := ibits_and_le n 7 (by decide)
                                obtain ⟨g7, hg7⟩ : ∃ y, ibits .and .i64 n 7 = y := ⟨_, rfl⟩
                                have hb7 : 0 ≤ g7 ∧ g7 ≤ 7 := hg7 ▸ hb7
                                have H := aj hwi1 (aj hxw (aj hg7 H))
                                refine rg [4, 8] (k := rB (k := ?_))
                                have hw9 : wv = 13 := by have := of_decide_eq_false hc1; have := of_decide_eq_false hc2; have := of_decide_eq_false hc3; have := of_decide_eq_false hc4; have := of_decide_eq_false hc5; have := of_decide_eq_false hc6; have := of_decide_eq_false hc7; have := of_decide_eq_false hc9; have := of_decide_eq_false hc11; have := of_decide_eq_false hc13; have := of_decide_eq_false hc15; have := of_decide_eq_false hc17; have := of_decide_eq_false hc18; omega
                                subst hw9
                                refine rp [4, 8] (k := ?_)
                                refine hJb0 _ _ ⟨rfl, au, ?_⟩
                                rw [hodd, show oddG t k x 13 wi si at_ n = ⟨t.frame, t.tens.set k (⟨x.unit, x.fns, x.queue, x.wins.set wi ⟨g7, w.virt, w.phys, w.cnt⟩, x.slts⟩ : Ten)⟩ by simp only [oddG, oddX, Int.reduceEq, reduceCtorEq, ↓reduceIte, List.append_nil, modF_lt hwl2 hwe, hg7]]
                                exact odd_done (by repeat (first | exact F1 | refine Fr.new ?_ _ | refine Fr.set ?_ (by omega) (by first | omega | (simp only [nxt_new, nxt_set]; omega)) _)) (by first | omega | (simp only [go_sem]; omega)) au (by omega) au ⟨.own (s.nxt + 1 + 1 + 1) 0 x.wins.length, .own (s.nxt + 1 + 1 + 1 + 1) 0 x.slts.length, rfl, .inr ⟨(s.nxt + 1 + 1 + 1), _, by simp, by omega, (by first | (exact au) | (simp only [List.map_set, List.map_append, List.map_cons, List.map_nil]; exact au))⟩, .inr ⟨(s.nxt + 1 + 1 + 1 + 1), _, by simp, by omega, (by first | (exact au) | (simp only [List.map_set, List.map_append, List.map_cons, List.map_nil]; exact au))⟩⟩
                              · have hc := hc19
                                refine rk (k := rB (k := ?_))
                                have hw9 : wv = 13 := by have := of_decide_eq_false hc1; have := of_decide_eq_false hc2; have := of_decide_eq_false hc3; have := of_decide_eq_false hc4; have := of_decide_eq_false hc5; have := of_decide_eq_false hc6; have := of_decide_eq_false hc7; have := of_decide_eq_false hc9; have := of_decide_eq_false hc11; have := of_decide_eq_false hc13; have := of_decide_eq_false hc15; have := of_decide_eq_false hc17; have := of_decide_eq_false hc18; omega
                                subst hw9
                                refine rp [4, 8] (k := ?_)
                                refine hJb0 _ _ ⟨rfl, au, ?_⟩
                                rw [hodd, show oddG t k x 13 wi si at_ n = ⟨t.frame, t.tens.set k (⟨x.unit, x.fns, x.queue, x.wins, x.slts⟩ : Ten)⟩ by simp only [oddG, oddX, Int.reduceEq, reduceCtorEq, ↓reduceIte, List.append_nil, modF_ge (show x.wins.length ≤ wi by have := of_decide_eq_false hc19; first | omega | simp_all)]]
                                exact odd_done (by repeat (first | exact F1 | refine Fr.new ?_ _ | refine Fr.set ?_ (by omega) (by first | omega | (simp only [nxt_new, nxt_set]; omega)) _)) (by first | omega | (simp only [go_sem]; omega)) au (by omega) au ⟨.own (s.nxt + 1 + 1 + 1) 0 x.wins.length, .own (s.nxt + 1 + 1 + 1 + 1) 0 x.slts.length, rfl, .inr ⟨(s.nxt + 1 + 1 + 1), _, by simp, by omega, (by first | (exact au) | (simp only [List.map_set, List.map_append, List.map_cons, List.map_nil]; exact au))⟩, .inr ⟨(s.nxt + 1 + 1 + 1 + 1), _, by simp, by omega, (by first | (exact au) | (simp only [List.map_set, List.map_append, List.map_cons, List.map_nil]; exact au))⟩⟩
set_option maxRecDepth 100000 in
theorem odd_wn {t : Tab} {m : Nat} (hm : m ≤ 1000) (ht : t.few m) {what at_ n : Int} (hwI : I64 what) (haI : I64 at_) (hnI : I64 n) {k : Nat} (hkw : withinI at_ 0 (t.tens.length - 1) = k) (hkl : k < t.tens.length) {x : Ten} (hxe : t.tens[k] = x) (hwe : x.wins ≠ []) (hse : x.slts = []) {s : St} : ACalls Try.prog 12 [t.pv, .int .i64 what, .int .i64 at_, .int .i64 n] s (fun r s' => r = (oddF t what at_ n).pv ∧ s' = s) := by
  refine go Try.func12 (k := fun hwf H => ?_)
  have hnt := ht.nt
  have hxm : x ∈ t.tens := by rw [← hxe]; exact List.getElem_mem _
  have hnw := ht.nw x hxm
  have hns := ht.ns x hxm
  have hte : t.tens ≠ [] := fun h => by rw [h] at hkl; simp at hkl
  have hxx : (t.tens.map Ten.pv)[k]? = some (.agg [.int .i64 (x).unit, .int .u32 (x).fns, .int .i64 (x).queue, .sl .unk ((x).wins.map Win.pv), .sl .unk ((x).slts.map Slt.pv)]) := by rw [map_get hkl, hxe]; rfl
  have hgs : ∀ X, ((t.tens.map Ten.pv).set k X)[k]? = some X := fun X => by rw [List.getElem?_set]; simp [hkl]
  have hwl : IntKind.i64.wrap ((t.tens.length : Int) - 1) = (t.tens.length : Int) - 1 := wrap_i64 (by omega)
  have htl0 : ((t.tens.length : Int) = 0) = False := eq_false (by omega)
  have hk2 : ((k : Int) < (t.tens.length : Int)) = True := eq_true (by omega)
  have H := aj hgs (aj hwl (aj hkw (aj hk2 (aj htl0 (aj hse H)))))
  refine rs (k := rg [1, 2, 3, 4, 8] (k := rs (k := rr (k := rO (k := ro (pre := [_, _]) (k := ?_))))))
  refine RunO.appendFirst au au au Try.td22 (by rw [Try.zp53]; rfl) (isEls_none _ _) (isEls_map (f := Ten.pv) (fun a => ⟨rfl, by rw [Try.cz53]; rfl⟩) _) (by rw [Try.by53]; decide) (by rw [Try.by53]; simp; omega) (by simp only [aAppendFirst, List.map_eq_nil_iff, ne_eq, hte, not_false_eq_true, if_true, List.length_nil, Nat.zero_add, List.length_map, List.nil_append, go_sem]; rfl) ?_
  refine rh [1, 2, 3, 4, 8] (k := rs (k := rs (k := rg [1, 2, 3, 4, 8, 21] (k := rc (ht := fun hc0 => ?_) (hf := fun hc0 => ?_)))))
  · cases hc0
  · have hc := hc0
    refine rk (k := rs (k := rr (k := ro (pre := [_, _, _, _, _]) (k := rC (h := within_ (lo := 0) (hi := (t.tens.length : Int) - 1) (by decide) (by omega) (by omega)) (k := rh [1, 2, 3, 4, 8, 9] (k := rs (k := rg [1, 2, 3, 4, 8, 10] (k := rs (k := ?_)))))))))
    have H := aj hxx H
    refine rr (k := ro (pre := [_]) (k := rO (k := ro (pre := [_, _, _, _]) (k := ?_))))
    refine RunO.appendFirst au au au Try.td50 (by rw [Try.zp65]; rfl) (isEls_none _ _) (isEls_map (f := Win.pv) (fun a => ⟨rfl, by rw [Try.cz65]; rfl⟩) _) (by rw [Try.by65]; decide) (by rw [Try.by65]; simp; omega) (by simp only [aAppendFirst, List.map_eq_nil_iff, ne_eq, hwe, not_false_eq_true, if_true, List.length_nil, Nat.zero_add, List.length_map, List.nil_append, go_sem]; rfl) ?_
    refine rh [1, 2, 3, 4, 8, 10] (k := rs (k := rr (k := ro (pre := [_]) (k := rO (k := ro (pre := [_, _, _, _]) (k := ?_))))))
    refine RunO.append au au au Try.td51 (by rw [Try.zp60]; rfl) (isEls_none _ _) (isEls_none _ _) (by rw [Try.by60]; decide) (by simp) (v := .sl .clip []) (by unfold aAppend; rw [if_pos rfl]) ?_
    refine rh [1, 2, 3, 4, 8, 10] (k := rs (k := ?_))
    refine Run.abs (fun s1 => Fr s s1 ∧ s1.nxt = s.nxt + 1 + 1 + 1 + 1 ∧ s1.blk s.nxt = some (.row 24 [.agg [.int .i64 t.frame, .own (s.nxt + 1 + 1) 0 t.tens.length]]) ∧ s1.blk (s.nxt + 1) = some (.row 24 [.agg [.int .i64 0, .sl .nil []]]) ∧ s1.blk (s.nxt + 1 + 1) = some (.row 53 ((t.tens.map Ten.pv).set k (.agg [.int .i64 x.unit, .int .u32 x.fns, .int .i64 x.queue, .own (s.nxt + 1 + 1 + 1) 0 x.wins.length, .sl .clip []]))) ∧ s1.blk (s.nxt + 1 + 1 + 1) = some (.row 65 (x.wins.map Win.pv))) ⟨by repeat (first | exact Fr.refl hwf | refine Fr.new ?_ _ | refine Fr.set ?_ (by omega) (by simp only [nxt_new, nxt_set]; omega) _), by simp only [go_sem], by simp only [go_sem, ↓reduceIte, Nat.reduceEqDiff, Nat.reduceAdd], by simp only [go_sem, ↓reduceIte, Nat.reduceEqDiff, Nat.reduceAdd], by simp only [go_sem, ↓reduceIte, Nat.reduceEqDiff, Nat.reduceAdd], by simp only [go_sem, ↓reduceIte, Nat.reduceEqDiff, Nat.reduceAdd]⟩ ?_
    rintro s1 ⟨F1, hn1, b4, b8, bA, bB⟩
    have hwi0 := withinI_bound (n := n) (lo := 0) (hi := 5) (by decide)
    have hsi0 := withinI_bound (n := n) (lo := 0) (hi := 2) (by decide)
    obtain ⟨wi, hwi⟩ : ∃ y : Nat, withinI n 0 5 = y := ⟨_, (Int.toNat_of_nonneg hwi0.1).symm⟩
    obtain ⟨si, hsi⟩ : ∃ y : Nat, withinI n 0 2 = y := ⟨_, (Int.toNat_of_nonneg hsi0.1).symm⟩
    have z0 : (s.nxt = s1.nxt) = False := eq_false (by omega)
    have z1 : (s.nxt + 1 = s1.nxt) = False := eq_false (by omega)
    have z2 : (s.nxt + 1 + 1 = s1.nxt) = False := eq_false (by omega)
    have z3 : (s.nxt + 1 + 1 + 1 = s1.nxt) = False := eq_false (by omega)
    have y0 : (s1.nxt = s.nxt) = False := eq_false (by omega)
    have y1 : (s1.nxt = s.nxt + 1) = False := eq_false (by omega)
    have y2 : (s1.nxt = s.nxt + 1 + 1) = False := eq_false (by omega)
    have y3 : (s1.nxt = s.nxt + 1 + 1 + 1) = False := eq_false (by omega)
    have H := aj b4 (aj b8 (aj bA (aj bB (aj hwi (aj hsi (aj z0 (aj z1 (aj z2 (aj z3 (aj y0 (aj y1 (aj y2 (aj y3 H)))))))))))))
    refine rr (k := ro (pre := [_]) (k := rC (h := within_ (lo := 0) (hi := 5) (by decide) (by decide) (by decide)) (k := ro (pre := [_]) (k := rC (h := within_ (lo := 0) (hi := 2) (by decide) (by decide) (by decide)) (k := rh [1, 2, 3, 4, 8, 10, 11, 12] (k := rs (k := rs (k := rr (k := ro (pre := [_]) (k := rC (h := within_ (lo := 0) (hi := 13) (by decide) (by decide) (by decide)) (k := ?_)))))))))))
    refine rl [2, 3, 4, 8, 10, 11, 12, 56] (k := ?_)
    refine Run.join (fun e s' => e = [(4, .ptr s.nxt 0 0), (8, .ptr (s.nxt + 1) 0 0)] ∧ s'.blk (s.nxt + 1) = some (.row 24 [.agg [.int .i64 0, .sl .nil []]]) ∧ OddR s s' (oddF t what at_ n)) ?_ ?_
    · rintro e s2 ⟨rfl, r0, hO⟩
      obtain ⟨A', els, r1, r2, r3, r4, r5⟩ := hO.row
      have H := aj r0 (aj r1 H)
      refine rs (k := rg [8] (k := rR (k := ?_)))
      exact Ret.pureF (r' := (oddF t what at_ n).pv) 7 (by simp only [Try.f12, go_sem, ↓reduceIte, r0, r1] <;> rfl) ((hO.set _).frz (by simp only [go_sem, ↓reduceIte]; exact r1)) (blw_tab _ _) hwf (hO.set _).fr.blk ⟨rfl, rfl⟩
    intro hJb0
    refine rb (k := rs (k := ?_))
    obtain ⟨wv, hwv⟩ : ∃ y, withinI what 0 13 = y := ⟨_, rfl⟩
    have hwb := withinI_bound (n := what) (lo := 0) (hi := 13) (by decide)
    have hodd := oddF_eq hkw hkl hxe hwv hwi hsi (at_ := at_)
    rw [hwv]
    rw [hwv] at hwb
    refine rg [2, 3, 4, 8, 10, 11, 12, 56, 73] (k := rc (ht := fun hc1 => ?_) (hf := fun hc1 => ?_))
    · have hc := hc1
      refine rg [4, 8] (k := rB (k := ?_))
      have hw9 : wv = 0 := by have h := of_decide_eq_true hc1; omega
      subst hw9
      refine rp [4, 8] (k := ?_)
      refine hJb0 _ _ ⟨rfl, au, ?_⟩
      rw [hodd, show oddG t k x 0 wi si at_ n = ⟨n, t.tens.set k (⟨x.unit, x.fns, x.queue, x.wins, x.slts⟩ : Ten)⟩ by simp only [oddG, oddX, Int.reduceEq, reduceCtorEq, ↓reduceIte, List.append_nil]]
      exact odd_done (by repeat (first | exact F1 | refine Fr.new ?_ _ | refine Fr.set ?_ (by omega) (by first | omega | (simp only [nxt_new, nxt_set]; omega)) _)) (by first | omega | (simp only [go_sem]; omega)) au (by omega) au ⟨.own (s.nxt + 1 + 1 + 1) 0 x.wins.length, .sl .clip [], rfl, .inr ⟨(s.nxt + 1 + 1 + 1), _, by simp, by omega, (by first | (exact au) | (simp only [List.map_set, List.map_append, List.map_cons, List.map_nil]; exact au))⟩, .inl ⟨.clip, by simp [hse]⟩⟩
    · have hc := hc1
      refine rs (k := rg [2, 3, 4, 8, 10, 11, 12, 56, 77] (k := rc (ht := fun hc2 => ?_) (hf := fun hc2 => ?_)))
      · have hc := hc2
        refine rg [4, 8] (k := rB (k := ?_))
        have hw9 : wv = 1 := by have h := of_decide_eq_true hc2; omega
        subst hw9
        refine rp [4, 8] (k := ?_)
        refine hJb0 _ _ ⟨rfl, au, ?_⟩
        rw [hodd, show oddG t k x 1 wi si at_ n = ⟨t.frame, t.tens.set k (⟨n, x.fns, x.queue, x.wins, x.slts⟩ : Ten)⟩ by simp only [oddG, oddX, Int.reduceEq, reduceCtorEq, ↓reduceIte, List.append_nil]]
        exact odd_done (by repeat (first | exact F1 | refine Fr.new ?_ _ | refine Fr.set ?_ (by omega) (by first | omega | (simp only [nxt_new, nxt_set]; omega)) _)) (by first | omega | (simp only [go_sem]; omega)) au (by omega) au ⟨.own (s.nxt + 1 + 1 + 1) 0 x.wins.length, .sl .clip [], rfl, .inr ⟨(s.nxt + 1 + 1 + 1), _, by simp, by omega, (by first | (exact au) | (simp only [List.map_set, List.map_append, List.map_cons, List.map_nil]; exact au))⟩, .inl ⟨.clip, by simp [hse]⟩⟩
      · have hc := hc2
        refine rs (k := rg [2, 3, 4, 8, 10, 11, 12, 56, 83] (k := rc (ht := fun hc3 => ?_) (hf := fun hc3 => ?_)))
        · have hc := hc3
          refine rg [4, 8] (k := rB (k := ?_))
          have hw9 : wv = 2 := by have h := of_decide_eq_true hc3; omega
          subst hw9
          refine rp [4, 8] (k := ?_)
          refine hJb0 _ _ ⟨rfl, au, ?_⟩
          rw [hodd, show oddG t k x 2 wi si at_ n = ⟨t.frame, t.tens.set k (⟨x.unit, x.fns, n, x.wins, x.slts⟩ : Ten)⟩ by simp only [oddG, oddX, Int.reduceEq, reduceCtorEq, ↓reduceIte, List.append_nil]]
          exact odd_done (by repeat (first | exact F1 | refine Fr.new ?_ _ | refine Fr.set ?_ (by omega) (by first | omega | (simp only [nxt_new, nxt_set]; omega)) _)) (by first | omega | (simp only [go_sem]; omega)) au (by omega) au ⟨.own (s.nxt + 1 + 1 + 1) 0 x.wins.length, .sl .clip [], rfl, .inr ⟨(s.nxt + 1 + 1 + 1), _, by simp, by omega, (by first | (exact au) | (simp only [List.map_set, List.map_append, List.map_cons, List.map_nil]; exact au))⟩, .inl ⟨.clip, by simp [hse]⟩⟩
        · have hc := hc3
          refine rs (k := rg [2, 3, 4, 8, 10, 11, 12, 56, 89] (k := rc (ht := fun hc4 => ?_) (hf := fun hc4 => ?_)))
          · have hc := hc4
            refine rg [4, 8] (k := rB (k := ?_))
            have hw9 : wv = 3 := by have h := of_decide_eq_true hc4; omega
            subst hw9
            refine rp [4, 8] (k := ?_)
            refine hJb0 _ _ ⟨rfl, au, ?_⟩
            rw [hodd, show oddG t k x 3 wi si at_ n = ⟨t.frame, t.tens.set k (⟨x.unit, IntKind.u32.wrap n, x.queue, x.wins, x.slts⟩ : Ten)⟩ by simp only [oddG, oddX, Int.reduceEq, reduceCtorEq, ↓reduceIte, List.append_nil]]
            exact odd_done (by repeat (first | exact F1 | refine Fr.new ?_ _ | refine Fr.set ?_ (by omega) (by first | omega | (simp only [nxt_new, nxt_set]; omega)) _)) (by first | omega | (simp only [go_sem]; omega)) au (by omega) au ⟨.own (s.nxt + 1 + 1 + 1) 0 x.wins.length, .sl .clip [], rfl, .inr ⟨(s.nxt + 1 + 1 + 1), _, by simp, by omega, (by first | (exact au) | (simp only [List.map_set, List.map_append, List.map_cons, List.map_nil]; exact au))⟩, .inl ⟨.clip, by simp [hse]⟩⟩
          · have hc := hc4
            refine rs (k := rg [2, 3, 4, 8, 10, 11, 12, 56, 96] (k := rc (ht := fun hc5 => ?_) (hf := fun hc5 => ?_)))
            · have hc := hc5
              refine rr (k := ro (pre := [_, _, _, _, _, _, _]) (k := rO (k := ?_)))
              refine RunO.appendFirst au au au Try.td51 (by rw [Try.zp60]; rfl) (isEls_none _ _) (isEls_map (f := Slt.pv) (fun a => ⟨rfl, by rw [Try.cz60]; rfl⟩) [⟨n, 72⟩]) (by rw [Try.by60]; decide) (by rw [Try.by60]; simp) (v := .own s1.nxt 0 1) (s' := s1.new (.row 60 [.agg [.int .i64 n, .int .i64 72]])) (by simp [aAppendFirst, Slt.pv, Win.pv]) ?_
              refine rh [4, 8] (k := rB (k := ?_))
              have hw9 : wv = 4 := by have h := of_decide_eq_true hc5; omega
              subst hw9
              refine rp [4, 8] (k := ?_)
              refine hJb0 _ _ ⟨rfl, au, ?_⟩
              rw [hodd, show oddG t k x 4 wi si at_ n = ⟨t.frame, t.tens.set k (⟨x.unit, x.fns, x.queue, x.wins, x.slts ++ [⟨n, 72⟩]⟩ : Ten)⟩ by simp only [oddG, oddX, Int.reduceEq, reduceCtorEq, ↓reduceIte, List.append_nil]]
              exact odd_done (by repeat (first | exact F1 | refine Fr.new ?_ _ | refine Fr.set ?_ (by omega) (by first | omega | (simp only [nxt_new, nxt_set]; omega)) _)) (by first | omega | (simp only [go_sem]; omega)) au (by omega) au ⟨.own (s.nxt + 1 + 1 + 1) 0 x.wins.length, .own s1.nxt 0 1, rfl, .inr ⟨(s.nxt + 1 + 1 + 1), _, by simp, by omega, (by first | (exact au) | (simp only [List.map_set, List.map_append, List.map_cons, List.map_nil]; exact au))⟩, .inr ⟨s1.nxt, _, by simp [hse], by omega, (by first | (exact au) | (simp only [List.map_set, List.map_append, List.map_cons, List.map_nil]; exact au))⟩⟩
            · have hc := hc5
              refine rs (k := rg [2, 3, 4, 8, 10, 11, 12, 56, 109] (k := rc (ht := fun hc6 => ?_) (hf := fun hc6 => ?_)))
              · have hc := hc6
                have hb0 := ibits_and_le n 3 (by decide)
                have hb1 := ibits_and_le at_ 1023 (by decide)
                have hb2 := ibits_and_le n 511 (by decide)
                have hb3 := ibits_and_le at_ 31 (by decide)
                obtain ⟨g0, hg0⟩ : ∃ y, ibits .and .i64 n 3 = y := ⟨_, rfl⟩
                obtain ⟨g1, hg1⟩ : ∃ y, ibits .and .i64 at_ 1023 = y := ⟨_, rfl⟩
                obtain ⟨g2, hg2⟩ : ∃ y, ibits .and .i64 n 511 = y := ⟨_, rfl⟩
                obtain ⟨g4, hg4⟩ : ∃ y, ibits .and .i64 at_ 31 = y := ⟨_, rfl⟩
                have hb0 : 0 ≤ g0 ∧ g0 ≤ 3 := hg0 ▸ hb0
                have hb1 : 0 ≤ g1 ∧ g1 ≤ 1023 := hg1 ▸ hb1
                have hb2 : 0 ≤ g2 ∧ g2 ≤ 511 := hg2 ▸ hb2
                have hb3 : 0 ≤ g4 ∧ g4 ≤ 31 := hg4 ▸ hb3
                have hg3 : IntKind.i64.wrap (1 + g4) = 1 + g4 := wrap_i64 (by omega)
                have H := aj hg0 (aj hg1 (aj hg2 (aj hg4 (aj hg3 H))))
                refine rr (k := ro (pre := [_, _, _, _, _, _, _, _, _, _, _, _, _, _, _]) (k := rO (k := ?_)))
                refine RunO.appendOwn au au au Try.td50 (by rw [Try.zp65]; rfl) (isEls_map (f := Win.pv) (fun a => ⟨rfl, by rw [Try.cz65]; rfl⟩) [⟨g0, g1, g2, 1 + g4⟩]) (by rw [Try.by65]; decide) (by rw [Try.by65]; simp; omega) (v := .own s1.nxt 0 (x.wins.length + 1)) (s' := (s1.set (s.nxt + 1 + 1 + 1) none).new (.row 65 (x.wins.map Win.pv ++ [.agg [.int .i64 g0, .int .i64 g1, .int .i64 g2, .int .i64 (1 + g4)]]))) (by unfold aAppendOwn; rw [bB]; simp only [ne_eq, List.cons_ne_nil, not_false_eq_true, List.length_map, Nat.le_refl, and_self, if_true, List.length_cons, List.length_nil, Nat.zero_add]; rw [List.take_of_length_le (by rw [List.length_map]; exact Nat.le_refl _)]; rfl) ?_
                refine rh [4, 8] (k := rB (k := ?_))
                have hw9 : wv = 5 := by have h := of_decide_eq_true hc6; omega
                subst hw9
                refine rp [4, 8] (k := ?_)
                refine hJb0 _ _ ⟨rfl, au, ?_⟩
                rw [hodd, show oddG t k x 5 wi si at_ n = ⟨t.frame, t.tens.set k (⟨x.unit, x.fns, x.queue, x.wins ++ [⟨g0, g1, g2, 1 + g4⟩], x.slts⟩ : Ten)⟩ by simp only [oddG, oddX, Int.reduceEq, reduceCtorEq, ↓reduceIte, List.append_nil, hg0, hg1, hg2, hg4]]
                exact odd_done (by repeat (first | exact F1 | refine Fr.new ?_ _ | refine Fr.set ?_ (by omega) (by first | omega | (simp only [nxt_new, nxt_set]; omega)) _)) (by first | omega | (simp only [go_sem]; omega)) au (by omega) au ⟨.own s1.nxt 0 (x.wins.length + 1), .sl .clip [], rfl, .inr ⟨s1.nxt, _, by simp, by omega, (by first | (exact au) | (simp only [List.map_set, List.map_append, List.map_cons, List.map_nil]; exact au))⟩, .inl ⟨.clip, by simp [hse]⟩⟩
              · have hc := hc6
                refine rs (k := rg [3, 4, 8, 10, 11, 12, 56, 130] (k := rc (ht := fun hc7 => ?_) (hf := fun hc7 => ?_)))
                · have hc := hc7
                  refine rs (k := rg [3, 4, 8, 10, 11, 138] (k := rc (ht := fun hc8 => ?_) (hf := fun hc8 => ?_)))
                  · have hc := hc8
                    have hwl2 : wi < x.wins.length := by have := of_decide_eq_true hc; omega
                    have hwi1 : ((wi : Int) < (x.wins.length : Int)) = True := eq_true (by omega)
                    obtain ⟨w, hwe⟩ : ∃ z_, x.wins[wi]'hwl2 = z_ := ⟨_, rfl⟩
                    have hxw : (x.wins.map Win.pv)[wi]? = some (.agg [.int .i64 (w).space, .int .i64 (w).virt, .int .i64 (w).phys, .int .i64 (w).cnt]) := by rw [map_get hwl2, hwe]; rfl
                    have H := aj hwi1 (aj hxw H)
                    refine rg [4, 8] (k := rB (k := ?_))
                    have hw9 : wv = 6 := by have h := of_decide_eq_true hc7; omega
                    subst hw9
                    refine rp [4, 8] (k := ?_)
                    refine hJb0 _ _ ⟨rfl, au, ?_⟩
                    rw [hodd, show oddG t k x 6 wi si at_ n = ⟨t.frame, t.tens.set k (⟨x.unit, x.fns, x.queue, x.wins.set wi ⟨w.space, w.virt, n, w.cnt⟩, x.slts⟩ : Ten)⟩ by simp only [oddG, oddX, Int.reduceEq, reduceCtorEq, ↓reduceIte, List.append_nil, modF_lt hwl2 hwe]]
                    exact odd_done (by repeat (first | exact F1 | refine Fr.new ?_ _ | refine Fr.set ?_ (by omega) (by first | omega | (simp only [nxt_new, nxt_set]; omega)) _)) (by first | omega | (simp only [go_sem]; omega)) au (by omega) au ⟨.own (s.nxt + 1 + 1 + 1) 0 x.wins.length, .sl .clip [], rfl, .inr ⟨(s.nxt + 1 + 1 + 1), _, by simp, by omega, (by first | (exact au) | (simp only [List.map_set, List.map_append, List.map_cons, List.map_nil]; exact au))⟩, .inl ⟨.clip, by simp [hse]⟩⟩
                  · have hc := hc8
                    refine rk (k := rB (k := ?_))
                    have hw9 : wv = 6 := by have h := of_decide_eq_true hc7; omega
                    subst hw9
                    refine rp [4, 8] (k := ?_)
                    refine hJb0 _ _ ⟨rfl, au, ?_⟩
                    rw [hodd, show oddG t k x 6 wi si at_ n = ⟨t.frame, t.tens.set k (⟨x.unit, x.fns, x.queue, x.wins, x.slts⟩ : Ten)⟩ by simp only [oddG, oddX, Int.reduceEq, reduceCtorEq, ↓reduceIte, List.append_nil, modF_ge (show x.wins.length ≤ wi by have := of_decide_eq_false hc8; first | omega | simp_all)]]
                    exact odd_done (by repeat (first | exact F1 | refine Fr.new ?_ _ | refine Fr.set ?_ (by omega) (by first | omega | (simp only [nxt_new, nxt_set]; omega)) _)) (by first | omega | (simp only [go_sem]; omega)) au (by omega) au ⟨.own (s.nxt + 1 + 1 + 1) 0 x.wins.length, .sl .clip [], rfl, .inr ⟨(s.nxt + 1 + 1 + 1), _, by simp, by omega, (by first | (exact au) | (simp only [List.map_set, List.map_append, List.map_cons, List.map_nil]; exact au))⟩, .inl ⟨.clip, by simp [hse]⟩⟩
                · have hc := hc7
                  refine rs (k := rg [3, 4, 8, 10, 11, 12, 56, 147] (k := rc (ht := fun hc9 => ?_) (hf := fun hc9 => ?_)))
                  · have hc := hc9
                    refine rs (k := rg [3, 4, 8, 10, 11, 155] (k := rc (ht := fun hc10 => ?_) (hf := fun hc10 => ?_)))
                    · have hc := hc10
                      have hwl2 : wi < x.wins.length := by have := of_decide_eq_true hc; omega
                      have hwi1 : ((wi : Int) < (x.wins.length : Int)) = True := eq_true (by omega)
                      obtain ⟨w, hwe⟩ : ∃ z_, x.wins[wi]'hwl2 = z_ := ⟨_, rfl⟩
                      have hxw : (x.wins.map Win.pv)[wi]? = some (.agg [.int .i64 (w).space, .int .i64 (w).virt, .int .i64 (w).phys, .int .i64 (w).cnt]) := by rw [map_get hwl2, hwe]; rfl
                      have H := aj hwi1 (aj hxw H)
                      refine rg [4, 8] (k := rB (k := ?_))
                      have hw9 : wv = 7 := by have h := of_decide_eq_true hc9; omega
                      subst hw9
                      refine rp [4, 8] (k := ?_)
                      refine hJb0 _ _ ⟨rfl, au, ?_⟩
                      rw [hodd, show oddG t k x 7 wi si at_ n = ⟨t.frame, t.tens.set k (⟨x.unit, x.fns, x.queue, x.wins.set wi ⟨w.space, n, w.phys, w.cnt⟩, x.slts⟩ : Ten)⟩ by simp only [oddG, oddX, Int.reduceEq, reduceCtorEq, ↓reduceIte, List.append_nil, modF_lt hwl2 hwe]]
                      exact odd_done (by repeat (first | exact F1 | refine Fr.new ?_ _ | refine Fr.set ?_ (by omega) (by first | omega | (simp only [nxt_new, nxt_set]; omega)) _)) (by first | omega | (simp only [go_sem]; omega)) au (by omega) au ⟨.own (s.nxt + 1 + 1 + 1) 0 x.wins.length, .sl .clip [], rfl, .inr ⟨(s.nxt + 1 + 1 + 1), _, by simp, by omega, (by first | (exact au) | (simp only [List.map_set, List.map_append, List.map_cons, List.map_nil]; exact au))⟩, .inl ⟨.clip, by simp [hse]⟩⟩
                    · have hc := hc10
                      refine rk (k := rB (k := ?_))
                      have hw9 : wv = 7 := by have h := of_decide_eq_true hc9; omega
                      subst hw9
                      refine rp [4, 8] (k := ?_)
                      refine hJb0 _ _ ⟨rfl, au, ?_⟩
                      rw [hodd, show oddG t k x 7 wi si at_ n = ⟨t.frame, t.tens.set k (⟨x.unit, x.fns, x.queue, x.wins, x.slts⟩ : Ten)⟩ by simp only [oddG, oddX, Int.reduceEq, reduceCtorEq, ↓reduceIte, List.append_nil, modF_ge (show x.wins.length ≤ wi by have := of_decide_eq_false hc10; first | omega | simp_all)]]
                      exact odd_done (by repeat (first | exact F1 | refine Fr.new ?_ _ | refine Fr.set ?_ (by omega) (by first | omega | (simp only [nxt_new, nxt_set]; omega)) _)) (by first | omega | (simp only [go_sem]; omega)) au (by omega) au ⟨.own (s.nxt + 1 + 1 + 1) 0 x.wins.length, .sl .clip [], rfl, .inr ⟨(s.nxt + 1 + 1 + 1), _, by simp, by omega, (by first | (exact au) | (simp only [List.map_set, List.map_append, List.map_cons, List.map_nil]; exact au))⟩, .inl ⟨.clip, by simp [hse]⟩⟩
                  · have hc := hc9
                    refine rs (k := rg [3, 4, 8, 10, 11, 12, 56, 164] (k := rc (ht := fun hc11 => ?_) (hf := fun hc11 => ?_)))
                    · have hc := hc11
                      refine rs (k := rg [3, 4, 8, 10, 11, 172] (k := rc (ht := fun hc12 => ?_) (hf := fun hc12 => ?_)))
                      · have hc := hc12
                        have hwl2 : wi < x.wins.length := by have := of_decide_eq_true hc; omega
                        have hwi1 : ((wi : Int) < (x.wins.length : Int)) = True := eq_true (by omega)
                        obtain ⟨w, hwe⟩ : ∃ z_, x.wins[wi]'hwl2 = z_ := ⟨_, rfl⟩
                        have hxw : (x.wins.map Win.pv)[wi]? = some (.agg [.int .i64 (w).space, .int .i64 (w).virt, .int .i64 (w).phys, .int .i64 (w).cnt]) := by rw [map_get hwl2, hwe]; rfl
                        have H := aj hwi1 (aj hxw H)
                        refine rg [4, 8] (k := rB (k := ?_))
                        have hw9 : wv = 8 := by have h := of_decide_eq_true hc11; omega
                        subst hw9
                        refine rp [4, 8] (k := ?_)
                        refine hJb0 _ _ ⟨rfl, au, ?_⟩
                        rw [hodd, show oddG t k x 8 wi si at_ n = ⟨t.frame, t.tens.set k (⟨x.unit, x.fns, x.queue, x.wins.set wi ⟨w.space, w.virt, w.phys, n⟩, x.slts⟩ : Ten)⟩ by simp only [oddG, oddX, Int.reduceEq, reduceCtorEq, ↓reduceIte, List.append_nil, modF_lt hwl2 hwe]]
                        exact odd_done (by repeat (first | exact F1 | refine Fr.new ?_ _ | refine Fr.set ?_ (by omega) (by first | omega | (simp only [nxt_new, nxt_set]; omega)) _)) (by first | omega | (simp only [go_sem]; omega)) au (by omega) au ⟨.own (s.nxt + 1 + 1 + 1) 0 x.wins.length, .sl .clip [], rfl, .inr ⟨(s.nxt + 1 + 1 + 1), _, by simp, by omega, (by first | (exact au) | (simp only [List.map_set, List.map_append, List.map_cons, List.map_nil]; exact au))⟩, .inl ⟨.clip, by simp [hse]⟩⟩
                      · have hc := hc12
                        refine rk (k := rB (k := ?_))
                        have hw9 : wv = 8 := by have h := of_decide_eq_true hc11; omega
                        subst hw9
                        refine rp [4, 8] (k := ?_)
                        refine hJb0 _ _ ⟨rfl, au, ?_⟩
                        rw [hodd, show oddG t k x 8 wi si at_ n = ⟨t.frame, t.tens.set k (⟨x.unit, x.fns, x.queue, x.wins, x.slts⟩ : Ten)⟩ by simp only [oddG, oddX, Int.reduceEq, reduceCtorEq, ↓reduceIte, List.append_nil, modF_ge (show x.wins.length ≤ wi by have := of_decide_eq_false hc12; first | omega | simp_all)]]
                        exact odd_done (by repeat (first | exact F1 | refine Fr.new ?_ _ | refine Fr.set ?_ (by omega) (by first | omega | (simp only [nxt_new, nxt_set]; omega)) _)) (by first | omega | (simp only [go_sem]; omega)) au (by omega) au ⟨.own (s.nxt + 1 + 1 + 1) 0 x.wins.length, .sl .clip [], rfl, .inr ⟨(s.nxt + 1 + 1 + 1), _, by simp, by omega, (by first | (exact au) | (simp only [List.map_set, List.map_append, List.map_cons, List.map_nil]; exact au))⟩, .inl ⟨.clip, by simp [hse]⟩⟩
                    · have hc := hc11
                      refine rs (k := rg [3, 4, 8, 10, 11, 12, 56, 181] (k := rc (ht := fun hc13 => ?_) (hf := fun hc13 => ?_)))
                      · have hc := hc13
                        refine rs (k := rg [3, 4, 8, 10, 12, 189] (k := rc (ht := fun hc14 => ?_) (hf := fun hc14 => ?_)))
                        · have hc := hc14
                          exfalso
                          have h := of_decide_eq_true hc
                          first | omega | (simp at h; omega)
                        · have hc := hc14
                          refine rk (k := rB (k := ?_))
                          have hw9 : wv = 9 := by have h := of_decide_eq_true hc13; omega
                          subst hw9
                          refine rp [4, 8] (k := ?_)
                          refine hJb0 _ _ ⟨rfl, au, ?_⟩
                          rw [hodd, show oddG t k x 9 wi si at_ n = ⟨t.frame, t.tens.set k (⟨x.unit, x.fns, x.queue, x.wins, x.slts⟩ : Ten)⟩ by simp only [oddG, oddX, Int.reduceEq, reduceCtorEq, ↓reduceIte, List.append_nil, modF_ge (show x.slts.length ≤ si by have := of_decide_eq_false hc14; first | omega | simp_all)]]
                          exact odd_done (by repeat (first | exact F1 | refine Fr.new ?_ _ | refine Fr.set ?_ (by omega) (by first | omega | (simp only [nxt_new, nxt_set]; omega)) _)) (by first | omega | (simp only [go_sem]; omega)) au (by omega) au ⟨.own (s.nxt + 1 + 1 + 1) 0 x.wins.length, .sl .clip [], rfl, .inr ⟨(s.nxt + 1 + 1 + 1), _, by simp, by omega, (by first | (exact au) | (simp only [List.map_set, List.map_append, List.map_cons, List.map_nil]; exact au))⟩, .inl ⟨.clip, by simp [hse]⟩⟩
                      · have hc := hc13
                        refine rs (k := rg [3, 4, 8, 10, 11, 12, 56, 198] (k := rc (ht := fun hc15 => ?_) (hf := fun hc15 => ?_)))
                        · have hc := hc15
                          refine rs (k := rg [3, 4, 8, 10, 12, 206] (k := rc (ht := fun hc16 => ?_) (hf := fun hc16 => ?_)))
                          · have hc := hc16
                            exfalso
                            have h := of_decide_eq_true hc
                            first | omega | (simp at h; omega)
                          · have hc := hc16
                            refine rk (k := rB (k := ?_))
                            have hw9 : wv = 10 := by have h := of_decide_eq_true hc15; omega
                            subst hw9
                            refine rp [4, 8] (k := ?_)
                            refine hJb0 _ _ ⟨rfl, au, ?_⟩
                            rw [hodd, show oddG t k x 10 wi si at_ n = ⟨t.frame, t.tens.set k (⟨x.unit, x.fns, x.queue, x.wins, x.slts⟩ : Ten)⟩ by simp only [oddG, oddX, Int.reduceEq, reduceCtorEq, ↓reduceIte, List.append_nil, modF_ge (show x.slts.length ≤ si by have := of_decide_eq_false hc16; first | omega | simp_all)]]
                            exact odd_done (by repeat (first | exact F1 | refine Fr.new ?_ _ | refine Fr.set ?_ (by omega) (by first | omega | (simp only [nxt_new, nxt_set]; omega)) _)) (by first | omega | (simp only [go_sem]; omega)) au (by omega) au ⟨.own (s.nxt + 1 + 1 + 1) 0 x.wins.length, .sl .clip [], rfl, .inr ⟨(s.nxt + 1 + 1 + 1), _, by simp, by omega, (by first | (exact au) | (simp only [List.map_set, List.map_append, List.map_cons, List.map_nil]; exact au))⟩, .inl ⟨.clip, by simp [hse]⟩⟩
                        · have hc := hc15
                          refine rs (k := rg [3, 4, 8, 10, 11, 56, 215] (k := rc (ht := fun hc17 => ?_) (hf := fun hc17 => ?_)))
                          · have hc := hc17
                            refine Run.drawCut 6 [] Try.mixed (by kernel_rfl) (by kernel_rfl) ?_
                            refine DetC.all au ?_
                            refine RunO.appendOwn au au au Try.td22 (by rw [Try.zp53]; rfl) (fun p hp => by rw [List.mem_singleton.1 hp]; exact ⟨rfl, by rw [Try.cz53]; rfl⟩) (by rw [Try.by53]; decide) (by rw [Try.by53]; simp; omega) (v := .own s1.nxt 0 (t.tens.length + 1)) (s' := (s1.set (s.nxt + 1 + 1) none).new (.row 53 ((t.tens.map Ten.pv).set k (.agg [.int .i64 x.unit, .int .u32 x.fns, .int .i64 x.queue, .own (s.nxt + 1 + 1 + 1) 0 x.wins.length, .sl .clip []]) ++ [.agg [.int .i64 x.unit, .int .u32 x.fns, .int .i64 x.queue, .own (s.nxt + 1 + 1 + 1) 0 x.wins.length, .sl .clip []]]))) (by unfold aAppendOwn; rw [bA]; simp only [ne_eq, List.cons_ne_nil, not_false_eq_true, List.length_set, List.length_map, Nat.le_refl, and_self, if_true, List.length_cons, List.length_nil, Nat.zero_add]; rw [List.take_of_length_le (by simp)]) ?_
                            refine rh [4, 8] (k := rB (k := ?_))
                            have hw9 : wv = 11 := by have h := of_decide_eq_true hc17; omega
                            subst hw9
                            refine rp [4, 8] (k := ?_)
                            refine hJb0 _ _ ⟨rfl, au, ?_⟩
                            rw [hodd, show oddG t k x 11 wi si at_ n = ⟨t.frame, t.tens.set k (⟨x.unit, x.fns, x.queue, x.wins, x.slts⟩ : Ten) ++ [(⟨x.unit, x.fns, x.queue, x.wins, x.slts⟩ : Ten)]⟩ by simp only [oddG, oddX, Int.reduceEq, reduceCtorEq, ↓reduceIte, List.append_nil]]
                            exact odd_app (by repeat (first | exact F1 | refine Fr.new ?_ _ | refine Fr.set ?_ (by omega) (by first | omega | (simp only [nxt_new, nxt_set]; omega)) _)) (by first | omega | (simp only [go_sem]; omega)) au (by omega) au ⟨.own (s.nxt + 1 + 1 + 1) 0 x.wins.length, .sl .clip [], rfl, .inr ⟨(s.nxt + 1 + 1 + 1), _, by simp, by omega, (by first | (exact au) | (simp only [List.map_set, List.map_append, List.map_cons, List.map_nil]; exact au))⟩, .inl ⟨.clip, by simp [hse]⟩⟩
                          · have hc := hc17
                            refine rs (k := rg [3, 4, 8, 10, 11, 225] (k := rc (ht := fun hc18 => ?_) (hf := fun hc18 => ?_)))
                            · have hc := hc18
                              refine rg [4, 8] (k := rB (k := ?_))
                              have hw9 : wv = 12 := by have h := of_decide_eq_true hc18; omega
                              subst hw9
                              refine rp [4, 8] (k := ?_)
                              refine hJb0 _ _ ⟨rfl, au, ?_⟩
                              rw [hodd, show oddG t k x 12 wi si at_ n = ⟨t.frame, t.tens.set k (⟨x.unit, x.fns, x.queue, x.wins, []⟩ : Ten)⟩ by simp only [oddG, oddX, Int.reduceEq, reduceCtorEq, ↓reduceIte, List.append_nil]]
                              exact odd_done (by repeat (first | exact F1 | refine Fr.new ?_ _ | refine Fr.set ?_ (by omega) (by first | omega | (simp only [nxt_new, nxt_set]; omega)) _)) (by first | omega | (simp only [go_sem]; omega)) au (by omega) au ⟨.own (s.nxt + 1 + 1 + 1) 0 x.wins.length, .sl .nil [], rfl, .inr ⟨(s.nxt + 1 + 1 + 1), _, by simp, by omega, (by first | (exact au) | (simp only [List.map_set, List.map_append, List.map_cons, List.map_nil]; exact au))⟩, .inl ⟨.nil, rfl⟩⟩
                            · have hc := hc18
                              refine rs (k := rg [3, 4, 8, 10, 11, 63] (k := rc (ht := fun hc19 => ?_) (hf := fun hc19 => ?_)))
                              · have hc := hc19
                                have hwl2 : wi < x.wins.length := by have := of_decide_eq_true hc; omega
                                have hwi1 : ((wi : Int) < (x.wins.length : Int)) = True := eq_true (by omega)
                                obtain ⟨w, hwe⟩ : ∃ z_, x.wins[wi]'hwl2 = z_ := ⟨_, rfl⟩
                                have hxw : (x.wins.map Win.pv)[wi]? = some (.agg [.int .i64 (w).space, .int .i64 (w).virt, .int .i64 (w).phys, .int .i64 (w).cnt]) := by rw [map_get hwl2, hwe]; rfl
                                have hb7 := ibits_and_le n 7 (by decide)
                                obtain ⟨g7, hg7⟩ : ∃ y, ibits .and .i64 n 7 = y := ⟨_, rfl⟩
                                have hb7 : 0 ≤ g7 ∧ g7 ≤ 7 := hg7 ▸ hb7
                                have H := aj hwi1 (aj hxw (aj hg7 H))
                                refine rg [4, 8] (k := rB (k := ?_))
                                have hw9 : wv = 13 := by have := of_decide_eq_false hc1; have := of_decide_eq_false hc2; have := of_decide_eq_false hc3; have := of_decide_eq_false hc4; have := of_decide_eq_false hc5; have := of_decide_eq_false hc6; have := of_decide_eq_false hc7; have := of_decide_eq_false hc9; have := of_decide_eq_false hc11; have := of_decide_eq_false hc13; have := of_decide_eq_false hc15; have := of_decide_eq_false hc17; have := of_decide_eq_false hc18; omega
                                subst hw9
                                refine rp [4, 8] (k := ?_)
                                refine hJb0 _ _ ⟨rfl, au, ?_⟩
                                rw [hodd, show oddG t k x 13 wi si at_ n = ⟨t.frame, t.tens.set k (⟨x.unit, x.fns, x.queue, x.wins.set wi ⟨g7, w.virt, w.phys, w.cnt⟩, x.slts⟩ : Ten)⟩ by simp only [oddG, oddX, Int.reduceEq, reduceCtorEq, ↓reduceIte, List.append_nil, modF_lt hwl2 hwe, hg7]]
                                exact odd_done (by repeat (first | exact F1 | refine Fr.new ?_ _ | refine Fr.set ?_ (by omega) (by first | omega | (simp only [nxt_new, nxt_set]; omega)) _)) (by first | omega | (simp only [go_sem]; omega)) au (by omega) au ⟨.own (s.nxt + 1 + 1 + 1) 0 x.wins.length, .sl .clip [], rfl, .inr ⟨(s.nxt + 1 + 1 + 1), _, by simp, by omega, (by first | (exact au) | (simp only [List.map_set, List.map_append, List.map_cons, List.map_nil]; exact au))⟩, .inl ⟨.clip, by simp [hse]⟩⟩
                              · have hc := hc19
                                refine rk (k := rB (k := ?_))
                                have hw9 : wv = 13 := by have := of_decide_eq_false hc1; have := of_decide_eq_false hc2; have := of_decide_eq_false hc3; have := of_decide_eq_false hc4; have := of_decide_eq_false hc5; have := of_decide_eq_false hc6; have := of_decide_eq_false hc7; have := of_decide_eq_false hc9; have := of_decide_eq_false hc11; have := of_decide_eq_false hc13; have := of_decide_eq_false hc15; have := of_decide_eq_false hc17; have := of_decide_eq_false hc18; omega
                                subst hw9
                                refine rp [4, 8] (k := ?_)
                                refine hJb0 _ _ ⟨rfl, au, ?_⟩
                                rw [hodd, show oddG t k x 13 wi si at_ n = ⟨t.frame, t.tens.set k (⟨x.unit, x.fns, x.queue, x.wins, x.slts⟩ : Ten)⟩ by simp only [oddG, oddX, Int.reduceEq, reduceCtorEq, ↓reduceIte, List.append_nil, modF_ge (show x.wins.length ≤ wi by have := of_decide_eq_false hc19; first | omega | simp_all)]]
                                exact odd_done (by repeat (first | exact F1 | refine Fr.new ?_ _ | refine Fr.set ?_ (by omega) (by first | omega | (simp only [nxt_new, nxt_set]; omega)) _)) (by first | omega | (simp only [go_sem]; omega)) au (by omega) au ⟨.own (s.nxt + 1 + 1 + 1) 0 x.wins.length, .sl .clip [], rfl, .inr ⟨(s.nxt + 1 + 1 + 1), _, by simp, by omega, (by first | (exact au) | (simp only [List.map_set, List.map_append, List.map_cons, List.map_nil]; exact au))⟩, .inl ⟨.clip, by simp [hse]⟩⟩
set_option maxRecDepth 100000 in
theorem odd_ns {t : Tab} {m : Nat} (hm : m ≤ 1000) (ht : t.few m) {what at_ n : Int} (hwI : I64 what) (haI : I64 at_) (hnI : I64 n) {k : Nat} (hkw : withinI at_ 0 (t.tens.length - 1) = k) (hkl : k < t.tens.length) {x : Ten} (hxe : t.tens[k] = x) (hwe : x.wins = []) (hse : x.slts ≠ []) {s : St} : ACalls Try.prog 12 [t.pv, .int .i64 what, .int .i64 at_, .int .i64 n] s (fun r s' => r = (oddF t what at_ n).pv ∧ s' = s) := by
  refine go Try.func12 (k := fun hwf H => ?_)
  have hnt := ht.nt
  have hxm : x ∈ t.tens := by rw [← hxe]; exact List.getElem_mem _
  have hnw := ht.nw x hxm
  have hns := ht.ns x hxm
  have hte : t.tens ≠ [] := fun h => by rw [h] at hkl; simp at hkl
  have hxx : (t.tens.map Ten.pv)[k]? = some (.agg [.int .i64 (x).unit, .int .u32 (x).fns, .int .i64 (x).queue, .sl .unk ((x).wins.map Win.pv), .sl .unk ((x).slts.map Slt.pv)]) := by rw [map_get hkl, hxe]; rfl
  have hgs : ∀ X, ((t.tens.map Ten.pv).set k X)[k]? = some X := fun X => by rw [List.getElem?_set]; simp [hkl]
  have hwl : IntKind.i64.wrap ((t.tens.length : Int) - 1) = (t.tens.length : Int) - 1 := wrap_i64 (by omega)
  have htl0 : ((t.tens.length : Int) = 0) = False := eq_false (by omega)
  have hk2 : ((k : Int) < (t.tens.length : Int)) = True := eq_true (by omega)
  have H := aj hgs (aj hwl (aj hkw (aj hk2 (aj htl0 (aj hwe H)))))
  refine rs (k := rg [1, 2, 3, 4, 8] (k := rs (k := rr (k := rO (k := ro (pre := [_, _]) (k := ?_))))))
  refine RunO.appendFirst au au au Try.td22 (by rw [Try.zp53]; rfl) (isEls_none _ _) (isEls_map (f := Ten.pv) (fun a => ⟨rfl, by rw [Try.cz53]; rfl⟩) _) (by rw [Try.by53]; decide) (by rw [Try.by53]; simp; omega) (by simp only [aAppendFirst, List.map_eq_nil_iff, ne_eq, hte, not_false_eq_true, if_true, List.length_nil, Nat.zero_add, List.length_map, List.nil_append, go_sem]; rfl) ?_
  refine rh [1, 2, 3, 4, 8] (k := rs (k := rs (k := rg [1, 2, 3, 4, 8, 21] (k := rc (ht := fun hc0 => ?_) (hf := fun hc0 => ?_)))))
  · cases hc0
  · have hc := hc0
    refine rk (k := rs (k := rr (k := ro (pre := [_, _, _, _, _]) (k := rC (h := within_ (lo := 0) (hi := (t.tens.length : Int) - 1) (by decide) (by omega) (by omega)) (k := rh [1, 2, 3, 4, 8, 9] (k := rs (k := rg [1, 2, 3, 4, 8, 10] (k := rs (k := ?_)))))))))
    have H := aj hxx H
    refine rr (k := ro (pre := [_]) (k := rO (k := ro (pre := [_, _, _, _]) (k := ?_))))
    refine RunO.append au au au Try.td50 (by rw [Try.zp65]; rfl) (isEls_none _ _) (isEls_none _ _) (by rw [Try.by65]; decide) (by simp) (v := .sl .clip []) (by unfold aAppend; rw [if_pos rfl]) ?_
    refine rh [1, 2, 3, 4, 8, 10] (k := rs (k := rr (k := ro (pre := [_]) (k := rO (k := ro (pre := [_, _, _, _]) (k := ?_))))))
    refine RunO.appendFirst au au au Try.td51 (by rw [Try.zp60]; rfl) (isEls_none _ _) (isEls_map (f := Slt.pv) (fun a => ⟨rfl, by rw [Try.cz60]; rfl⟩) _) (by rw [Try.by60]; decide) (by rw [Try.by60]; simp; omega) (by simp only [aAppendFirst, List.map_eq_nil_iff, ne_eq, hse, not_false_eq_true, if_true, List.length_nil, Nat.zero_add, List.length_map, List.nil_append, go_sem]; rfl) ?_
    refine rh [1, 2, 3, 4, 8, 10] (k := rs (k := ?_))
    refine Run.abs (fun s1 => Fr s s1 ∧ s1.nxt = s.nxt + 1 + 1 + 1 + 1 ∧ s1.blk s.nxt = some (.row 24 [.agg [.int .i64 t.frame, .own (s.nxt + 1 + 1) 0 t.tens.length]]) ∧ s1.blk (s.nxt + 1) = some (.row 24 [.agg [.int .i64 0, .sl .nil []]]) ∧ s1.blk (s.nxt + 1 + 1) = some (.row 53 ((t.tens.map Ten.pv).set k (.agg [.int .i64 x.unit, .int .u32 x.fns, .int .i64 x.queue, .sl .clip [], .own (s.nxt + 1 + 1 + 1) 0 x.slts.length]))) ∧ s1.blk (s.nxt + 1 + 1 + 1) = some (.row 60 (x.slts.map Slt.pv))) ⟨by repeat (first | exact Fr.refl hwf | refine Fr.new ?_ _ | refine Fr.set ?_ (by omega) (by simp only [nxt_new, nxt_set]; omega) _), by simp only [go_sem], by simp only [go_sem, ↓reduceIte, Nat.reduceEqDiff, Nat.reduceAdd], by simp only [go_sem, ↓reduceIte, Nat.reduceEqDiff, Nat.reduceAdd], by simp only [go_sem, ↓reduceIte, Nat.reduceEqDiff, Nat.reduceAdd], by simp only [go_sem, ↓reduceIte, Nat.reduceEqDiff, Nat.reduceAdd]⟩ ?_
    rintro s1 ⟨F1, hn1, b4, b8, bA, bC⟩
    have hwi0 := withinI_bound (n := n) (lo := 0) (hi := 5) (by decide)
    have hsi0 := withinI_bound (n := n) (lo := 0) (hi := 2) (by decide)
    obtain ⟨wi, hwi⟩ : ∃ y : Nat, withinI n 0 5 = y := ⟨_, (Int.toNat_of_nonneg hwi0.1).symm⟩
    obtain ⟨si, hsi⟩ : ∃ y : Nat, withinI n 0 2 = y := ⟨_, (Int.toNat_of_nonneg hsi0.1).symm⟩
    have z0 : (s.nxt = s1.nxt) = False := eq_false (by omega)
    have z1 : (s.nxt + 1 = s1.nxt) = False := eq_false (by omega)
    have z2 : (s.nxt + 1 + 1 = s1.nxt) = False := eq_false (by omega)
    have z3 : (s.nxt + 1 + 1 + 1 = s1.nxt) = False := eq_false (by omega)
    have y0 : (s1.nxt = s.nxt) = False := eq_false (by omega)
    have y1 : (s1.nxt = s.nxt + 1) = False := eq_false (by omega)
    have y2 : (s1.nxt = s.nxt + 1 + 1) = False := eq_false (by omega)
    have y3 : (s1.nxt = s.nxt + 1 + 1 + 1) = False := eq_false (by omega)
    have H := aj b4 (aj b8 (aj bA (aj bC (aj hwi (aj hsi (aj z0 (aj z1 (aj z2 (aj z3 (aj y0 (aj y1 (aj y2 (aj y3 H)))))))))))))
    refine rr (k := ro (pre := [_]) (k := rC (h := within_ (lo := 0) (hi := 5) (by decide) (by decide) (by decide)) (k := ro (pre := [_]) (k := rC (h := within_ (lo := 0) (hi := 2) (by decide) (by decide) (by decide)) (k := rh [1, 2, 3, 4, 8, 10, 11, 12] (k := rs (k := rs (k := rr (k := ro (pre := [_]) (k := rC (h := within_ (lo := 0) (hi := 13) (by decide) (by decide) (by decide)) (k := ?_)))))))))))
    refine rl [2, 3, 4, 8, 10, 11, 12, 56] (k := ?_)
    refine Run.join (fun e s' => e = [(4, .ptr s.nxt 0 0), (8, .ptr (s.nxt + 1) 0 0)] ∧ s'.blk (s.nxt + 1) = some (.row 24 [.agg [.int .i64 0, .sl .nil []]]) ∧ OddR s s' (oddF t what at_ n)) ?_ ?_
    · rintro e s2 ⟨rfl, r0, hO⟩
      obtain ⟨A', els, r1, r2, r3, r4, r5⟩ := hO.row
      have H := aj r0 (aj r1 H)
      refine rs (k := rg [8] (k := rR (k := ?_)))
      exact Ret.pureF (r' := (oddF t what at_ n).pv) 7 (by simp only [Try.f12, go_sem, ↓reduceIte, r0, r1] <;> rfl) ((hO.set _).frz (by simp only [go_sem, ↓reduceIte]; exact r1)) (blw_tab _ _) hwf (hO.set _).fr.blk ⟨rfl, rfl⟩
    intro hJb0
    refine rb (k := rs (k := ?_))
    obtain ⟨wv, hwv⟩ : ∃ y, withinI what 0 13 = y := ⟨_, rfl⟩
    have hwb := withinI_bound (n := what) (lo := 0) (hi := 13) (by decide)
    have hodd := oddF_eq hkw hkl hxe hwv hwi hsi (at_ := at_)
    rw [hwv]
    rw [hwv] at hwb
    refine rg [2, 3, 4, 8, 10, 11, 12, 56, 73] (k := rc (ht := fun hc1 => ?_) (hf := fun hc1 => ?_))
    · have hc := hc1
      refine rg [4, 8] (k := rB (k := ?_))
      have hw9 : wv = 0 := by have h := of_decide_eq_true hc1; omega
      subst hw9
      refine rp [4, 8] (k := ?_)
      refine hJb0 _ _ ⟨rfl, au, ?_⟩
      rw [hodd, show oddG t k x 0 wi si at_ n = ⟨n, t.tens.set k (⟨x.unit, x.fns, x.queue, x.wins, x.slts⟩ : Ten)⟩ by simp only [oddG, oddX, Int.reduceEq, reduceCtorEq, ↓reduceIte, List.append_nil]]
      exact odd_done (by repeat (first | exact F1 | refine Fr.new ?_ _ | refine Fr.set ?_ (by omega) (by first | omega | (simp only [nxt_new, nxt_set]; omega)) _)) (by first | omega | (simp only [go_sem]; omega)) au (by omega) au ⟨.sl .clip [], .own (s.nxt + 1 + 1 + 1) 0 x.slts.length, rfl, .inl ⟨.clip, by simp [hwe]⟩, .inr ⟨(s.nxt + 1 + 1 + 1), _, by simp, by omega, (by first | (exact au) | (simp only [List.map_set, List.map_append, List.map_cons, List.map_nil]; exact au))⟩⟩
    · have hc := hc1
      refine rs (k := rg [2, 3, 4, 8, 10, 11, 12, 56, 77] (k := rc (ht := fun hc2 => ?_) (hf := fun hc2 => ?_)))
      · have hc := hc2
        refine rg [4, 8] (k := rB (k := ?_))
        have hw9 : wv = 1 := by have h := of_decide_eq_true hc2; omega
        subst hw9
        refine rp [4, 8] (k := ?_)
        refine hJb0 _ _ ⟨rfl, au, ?_⟩
        rw [hodd, show oddG t k x 1 wi si at_ n = ⟨t.frame, t.tens.set k (⟨n, x.fns, x.queue, x.wins, x.slts⟩ : Ten)⟩ by simp only [oddG, oddX, Int.reduceEq, reduceCtorEq, ↓reduceIte, List.append_nil]]
        exact odd_done (by repeat (first | exact F1 | refine Fr.new ?_ _ | refine Fr.set ?_ (by omega) (by first | omega | (simp only [nxt_new, nxt_set]; omega)) _)) (by first | omega | (simp only [go_sem]; omega)) au (by omega) au ⟨.sl .clip [], .own (s.nxt + 1 + 1 + 1) 0 x.slts.length, rfl, .inl ⟨.clip, by simp [hwe]⟩, .inr ⟨(s.nxt + 1 + 1 + 1), _, by simp, by omega, (by first | (exact au) | (simp only [List.map_set, List.map_append, List.map_cons, List.map_nil]; exact au))⟩⟩
      · have hc := hc2
        refine rs (k := rg [2, 3, 4, 8, 10, 11, 12, 56, 83] (k := rc (ht := fun hc3 => ?_) (hf := fun hc3 => ?_)))
        · have hc := hc3
          refine rg [4, 8] (k := rB (k := ?_))
          have hw9 : wv = 2 := by have h := of_decide_eq_true hc3; omega
          subst hw9
          refine rp [4, 8] (k := ?_)
          refine hJb0 _ _ ⟨rfl, au, ?_⟩
          rw [hodd, show oddG t k x 2 wi si at_ n = ⟨t.frame, t.tens.set k (⟨x.unit, x.fns, n, x.wins, x.slts⟩ : Ten)⟩ by simp only [oddG, oddX, Int.reduceEq, reduceCtorEq, ↓reduceIte, List.append_nil]]
          exact odd_done (by repeat (first | exact F1 | refine Fr.new ?_ _ | refine Fr.set ?_ (by omega) (by first | omega | (simp only [nxt_new, nxt_set]; omega)) _)) (by first | omega | (simp only [go_sem]; omega)) au (by omega) au ⟨.sl .clip [], .own (s.nxt + 1 + 1 + 1) 0 x.slts.length, rfl, .inl ⟨.clip, by simp [hwe]⟩, .inr ⟨(s.nxt + 1 + 1 + 1), _, by simp, by omega, (by first | (exact au) | (simp only [List.map_set, List.map_append, List.map_cons, List.map_nil]; exact au))⟩⟩
        · have hc := hc3
          refine rs (k := rg [2, 3, 4, 8, 10, 11, 12, 56, 89] (k := rc (ht := fun hc4 => ?_) (hf := fun hc4 => ?_)))
          · have hc := hc4
            refine rg [4, 8] (k := rB (k := ?_))
            have hw9 : wv = 3 := by have h := of_decide_eq_true hc4; omega
            subst hw9
            refine rp [4, 8] (k := ?_)
            refine hJb0 _ _ ⟨rfl, au, ?_⟩
            rw [hodd, show oddG t k x 3 wi si at_ n = ⟨t.frame, t.tens.set k (⟨x.unit, IntKind.u32.wrap n, x.queue, x.wins, x.slts⟩ : Ten)⟩ by simp only [oddG, oddX, Int.reduceEq, reduceCtorEq, ↓reduceIte, List.append_nil]]
            exact odd_done (by repeat (first | exact F1 | refine Fr.new ?_ _ | refine Fr.set ?_ (by omega) (by first | omega | (simp only [nxt_new, nxt_set]; omega)) _)) (by first | omega | (simp only [go_sem]; omega)) au (by omega) au ⟨.sl .clip [], .own (s.nxt + 1 + 1 + 1) 0 x.slts.length, rfl, .inl ⟨.clip, by simp [hwe]⟩, .inr ⟨(s.nxt + 1 + 1 + 1), _, by simp, by omega, (by first | (exact au) | (simp only [List.map_set, List.map_append, List.map_cons, List.map_nil]; exact au))⟩⟩
          · have hc := hc4
            refine rs (k := rg [2, 3, 4, 8, 10, 11, 12, 56, 96] (k := rc (ht := fun hc5 => ?_) (hf := fun hc5 => ?_)))
            · have hc := hc5
              refine rr (k := ro (pre := [_, _, _, _, _, _, _]) (k := rO (k := ?_)))
              refine RunO.appendOwn au au au Try.td51 (by rw [Try.zp60]; rfl) (isEls_map (f := Slt.pv) (fun a => ⟨rfl, by rw [Try.cz60]; rfl⟩) [⟨n, 72⟩]) (by rw [Try.by60]; decide) (by rw [Try.by60]; simp; omega) (v := .own s1.nxt 0 (x.slts.length + 1)) (s' := (s1.set (s.nxt + 1 + 1 + 1) none).new (.row 60 (x.slts.map Slt.pv ++ [.agg [.int .i64 n, .int .i64 72]]))) (by unfold aAppendOwn; rw [bC]; simp only [ne_eq, List.cons_ne_nil, not_false_eq_true, List.length_map, Nat.le_refl, and_self, if_true, List.length_cons, List.length_nil, Nat.zero_add]; rw [List.take_of_length_le (by rw [List.length_map]; exact Nat.le_refl _)]; rfl) ?_
              refine rh [4, 8] (k := rB (k := ?_))
              have hw9 : wv = 4 := by have h := of_decide_eq_true hc5; omega
              subst hw9
              refine rp [4, 8] (k := ?_)
              refine hJb0 _ _ ⟨rfl, au, ?_⟩
              rw [hodd, show oddG t k x 4 wi si at_ n = ⟨t.frame, t.tens.set k (⟨x.unit, x.fns, x.queue, x.wins, x.slts ++ [⟨n, 72⟩]⟩ : Ten)⟩ by simp only [oddG, oddX, Int.reduceEq, reduceCtorEq, ↓reduceIte, List.append_nil]]
              exact odd_done (by repeat (first | exact F1 | refine Fr.new ?_ _ | refine Fr.set ?_ (by omega) (by first | omega | (simp only [nxt_new, nxt_set]; omega)) _)) (by first | omega | (simp only [go_sem]; omega)) au (by omega) au ⟨.sl .clip [], .own s1.nxt 0 (x.slts.length + 1), rfl, .inl ⟨.clip, by simp [hwe]⟩, .inr ⟨s1.nxt, _, by simp, by omega, (by first | (exact au) | (simp only [List.map_set, List.map_append, List.map_cons, List.map_nil]; exact au))⟩⟩
            · have hc := hc5
              refine rs (k := rg [2, 3, 4, 8, 10, 11, 12, 56, 109] (k := rc (ht := fun hc6 => ?_) (hf := fun hc6 => ?_)))
              · have hc := hc6
                have hb0 := ibits_and_le n 3 (by decide)
                have hb1 := ibits_and_le at_ 1023 (by decide)
                have hb2 := ibits_and_le n 511 (by decide)
                have hb3 := ibits_and_le at_ 31 (by decide)
                obtain ⟨g0, hg0⟩ : ∃ y, ibits .and .i64 n 3 = y := ⟨_, rfl⟩
                obtain ⟨g1, hg1⟩ : ∃ y, ibits .and .i64 at_ 1023 = y := ⟨_, rfl⟩
                obtain ⟨g2, hg2⟩ : ∃ y, ibits .and .i64 n 511 = y := ⟨_, rfl⟩
                obtain ⟨g4, hg4⟩ : ∃ y, ibits .and .i64 at_ 31 = y := ⟨_, rfl⟩
                have hb0 : 0 ≤ g0 ∧ g0 ≤ 3 := hg0 ▸ hb0
                have hb1 : 0 ≤ g1 ∧ g1 ≤ 1023 := hg1 ▸ hb1
                have hb2 : 0 ≤ g2 ∧ g2 ≤ 511 := hg2 ▸ hb2
                have hb3 : 0 ≤ g4 ∧ g4 ≤ 31 := hg4 ▸ hb3
                have hg3 : IntKind.i64.wrap (1 + g4) = 1 + g4 := wrap_i64 (by omega)
                have H := aj hg0 (aj hg1 (aj hg2 (aj hg4 (aj hg3 H))))
                refine rr (k := ro (pre := [_, _, _, _, _, _, _, _, _, _, _, _, _, _, _]) (k := rO (k := ?_)))
                refine RunO.appendFirst au au au Try.td50 (by rw [Try.zp65]; rfl) (isEls_none _ _) (isEls_map (f := Win.pv) (fun a => ⟨rfl, by rw [Try.cz65]; rfl⟩) [⟨g0, g1, g2, 1 + g4⟩]) (by rw [Try.by65]; decide) (by rw [Try.by65]; simp) (v := .own s1.nxt 0 1) (s' := s1.new (.row 65 [.agg [.int .i64 g0, .int .i64 g1, .int .i64 g2, .int .i64 (1 + g4)]])) (by simp [aAppendFirst, Slt.pv, Win.pv]) ?_
                refine rh [4, 8] (k := rB (k := ?_))
                have hw9 : wv = 5 := by have h := of_decide_eq_true hc6; omega
                subst hw9
                refine rp [4, 8] (k := ?_)
                refine hJb0 _ _ ⟨rfl, au, ?_⟩
                rw [hodd, show oddG t k x 5 wi si at_ n = ⟨t.frame, t.tens.set k (⟨x.unit, x.fns, x.queue, x.wins ++ [⟨g0, g1, g2, 1 + g4⟩], x.slts⟩ : Ten)⟩ by simp only [oddG, oddX, Int.reduceEq, reduceCtorEq, ↓reduceIte, List.append_nil, hg0, hg1, hg2, hg4]]
                exact odd_done (by repeat (first | exact F1 | refine Fr.new ?_ _ | refine Fr.set ?_ (by omega) (by first | omega | (simp only [nxt_new, nxt_set]; omega)) _)) (by first | omega | (simp only [go_sem]; omega)) au (by omega) au ⟨.own s1.nxt 0 1, .own (s.nxt + 1 + 1 + 1) 0 x.slts.length, rfl, .inr ⟨s1.nxt, _, by simp [hwe], by omega, (by first | (exact au) | (simp only [List.map_set, List.map_append, List.map_cons, List.map_nil]; exact au))⟩, .inr ⟨(s.nxt + 1 + 1 + 1), _, by simp, by omega, (by first | (exact au) | (simp only [List.map_set, List.map_append, List.map_cons, List.map_nil]; exact au))⟩⟩
              · have hc := hc6
                refine rs (k := rg [3, 4, 8, 10, 11, 12, 56, 130] (k := rc (ht := fun hc7 => ?_) (hf := fun hc7 => ?_)))
                · have hc := hc7
                  refine rs (k := rg [3, 4, 8, 10, 11, 138] (k := rc (ht := fun hc8 => ?_) (hf := fun hc8 => ?_)))
                  · have hc := hc8
                    exfalso
                    have h := of_decide_eq_true hc
                    first | omega | (simp at h; omega)
                  · have hc := hc8
                    refine rk (k := rB (k := ?_))
                    have hw9 : wv = 6 := by have h := of_decide_eq_true hc7; omega
                    subst hw9
                    refine rp [4, 8] (k := ?_)
                    refine hJb0 _ _ ⟨rfl, au, ?_⟩
                    rw [hodd, show oddG t k x 6 wi si at_ n = ⟨t.frame, t.tens.set k (⟨x.unit, x.fns, x.queue, x.wins, x.slts⟩ : Ten)⟩ by simp only [oddG, oddX, Int.reduceEq, reduceCtorEq, ↓reduceIte, List.append_nil, modF_ge (show x.wins.length ≤ wi by have := of_decide_eq_false hc8; first | omega | simp_all)]]
                    exact odd_done (by repeat (first | exact F1 | refine Fr.new ?_ _ | refine Fr.set ?_ (by omega) (by first | omega | (simp only [nxt_new, nxt_set]; omega)) _)) (by first | omega | (simp only [go_sem]; omega)) au (by omega) au ⟨.sl .clip [], .own (s.nxt + 1 + 1 + 1) 0 x.slts.length, rfl, .inl ⟨.clip, by simp [hwe]⟩, .inr ⟨(s.nxt + 1 + 1 + 1), _, by simp, by omega, (by first | (exact au) | (simp only [List.map_set, List.map_append, List.map_cons, List.map_nil]; exact au))⟩⟩
                · have hc := hc7
                  refine rs (k := rg [3, 4, 8, 10, 11, 12, 56, 147] (k := rc (ht := fun hc9 => ?_) (hf := fun hc9 => ?_)))
                  · have hc := hc9
                    refine rs (k := rg [3, 4, 8, 10, 11, 155] (k := rc (ht := fun hc10 => ?_) (hf := fun hc10 => ?_)))
                    · have hc := hc10
                      exfalso
                      have h := of_decide_eq_true hc
                      first | omega | (simp at h; omega)
                    · have hc := hc10
                      refine rk (k := rB (k := ?_))
                      have hw9 : wv = 7 := by have h := of_decide_eq_true hc9; omega
                      subst hw9
                      refine rp [4, 8] (k := ?_)
                      refine hJb0 _ _ ⟨rfl, au, ?_⟩
                      rw [hodd, show oddG t k x 7 wi si at_ n = ⟨t.frame, t.tens.set k (⟨x.unit, x.fns, x.queue, x.wins, x.slts⟩ : Ten)⟩ by simp only [oddG, oddX, Int.reduceEq, reduceCtorEq, ↓reduceIte, List.append_nil, modF_ge (show x.wins.length ≤ wi by have := of_decide_eq_false hc10; first | omega | simp_all)]]
                      exact odd_done (by repeat (first | exact F1 | refine Fr.new ?_ _ | refine Fr.set ?_ (by omega) (by first | omega | (simp only [nxt_new, nxt_set]; omega)) _)) (by first | omega | (simp only [go_sem]; omega)) au (by omega) au ⟨.sl .clip [], .own (s.nxt + 1 + 1 + 1) 0 x.slts.length, rfl, .inl ⟨.clip, by simp [hwe]⟩, .inr ⟨(s.nxt + 1 + 1 + 1), _, by simp, by omega, (by first | (exact au) | (simp only [List.map_set, List.map_append, List.map_cons, List.map_nil]; exact au))⟩⟩
                  · have hc := hc9
                    refine rs (k := rg [3, 4, 8, 10, 11, 12, 56, 164] (k := rc (ht := fun hc11 => ?_) (hf := fun hc11 => ?_)))
                    · have hc := hc11
                      refine rs (k := rg [3, 4, 8, 10, 11, 172] (k := rc (ht := fun hc12 => ?_) (hf := fun hc12 => ?_)))
                      · have hc := hc12
                        exfalso
                        have h := of_decide_eq_true hc
                        first | omega | (simp at h; omega)
                      · have hc := hc12
                        refine rk (k := rB (k := ?_))
                        have hw9 : wv = 8 := by have h := of_decide_eq_true hc11; omega
                        subst hw9
                        refine rp [4, 8] (k := ?_)
                        refine hJb0 _ _ ⟨rfl, au, ?_⟩
                        rw [hodd, show oddG t k x 8 wi si at_ n = ⟨t.frame, t.tens.set k (⟨x.unit, x.fns, x.queue, x.wins, x.slts⟩ : Ten)⟩ by simp only [oddG, oddX, Int.reduceEq, reduceCtorEq, ↓reduceIte, List.append_nil, modF_ge (show x.wins.length ≤ wi by have := of_decide_eq_false hc12; first | omega | simp_all)]]
                        exact odd_done (by repeat (first | exact F1 | refine Fr.new ?_ _ | refine Fr.set ?_ (by omega) (by first | omega | (simp only [nxt_new, nxt_set]; omega)) _)) (by first | omega | (simp only [go_sem]; omega)) au (by omega) au ⟨.sl .clip [], .own (s.nxt + 1 + 1 + 1) 0 x.slts.length, rfl, .inl ⟨.clip, by simp [hwe]⟩, .inr ⟨(s.nxt + 1 + 1 + 1), _, by simp, by omega, (by first | (exact au) | (simp only [List.map_set, List.map_append, List.map_cons, List.map_nil]; exact au))⟩⟩
                    · have hc := hc11
                      refine rs (k := rg [3, 4, 8, 10, 11, 12, 56, 181] (k := rc (ht := fun hc13 => ?_) (hf := fun hc13 => ?_)))
                      · have hc := hc13
                        refine rs (k := rg [3, 4, 8, 10, 12, 189] (k := rc (ht := fun hc14 => ?_) (hf := fun hc14 => ?_)))
                        · have hc := hc14
                          have hsl2 : si < x.slts.length := by have := of_decide_eq_true hc; omega
                          have hsi1 : ((si : Int) < (x.slts.length : Int)) = True := eq_true (by omega)
                          obtain ⟨a, hae⟩ : ∃ z_, x.slts[si]'hsl2 = z_ := ⟨_, rfl⟩
                          have hxa : (x.slts.map Slt.pv)[si]? = some (.agg [.int .i64 (a).pos, .int .i64 (a).len]) := by rw [map_get hsl2, hae]; rfl
                          have H := aj hsi1 (aj hxa H)
                          refine rg [4, 8] (k := rB (k := ?_))
                          have hw9 : wv = 9 := by have h := of_decide_eq_true hc13; omega
                          subst hw9
                          refine rp [4, 8] (k := ?_)
                          refine hJb0 _ _ ⟨rfl, au, ?_⟩
                          rw [hodd, show oddG t k x 9 wi si at_ n = ⟨t.frame, t.tens.set k (⟨x.unit, x.fns, x.queue, x.wins, x.slts.set si ⟨n, a.len⟩⟩ : Ten)⟩ by simp only [oddG, oddX, Int.reduceEq, reduceCtorEq, ↓reduceIte, List.append_nil, modF_lt hsl2 hae]]
                          exact odd_done (by repeat (first | exact F1 | refine Fr.new ?_ _ | refine Fr.set ?_ (by omega) (by first | omega | (simp only [nxt_new, nxt_set]; omega)) _)) (by first | omega | (simp only [go_sem]; omega)) au (by omega) au ⟨.sl .clip [], .own (s.nxt + 1 + 1 + 1) 0 x.slts.length, rfl, .inl ⟨.clip, by simp [hwe]⟩, .inr ⟨(s.nxt + 1 + 1 + 1), _, by simp, by omega, (by first | (exact au) | (simp only [List.map_set, List.map_append, List.map_cons, List.map_nil]; exact au))⟩⟩
                        · have hc := hc14
                          refine rk (k := rB (k := ?_))
                          have hw9 : wv = 9 := by have h := of_decide_eq_true hc13; omega
                          subst hw9
                          refine rp [4, 8] (k := ?_)
                          refine hJb0 _ _ ⟨rfl, au, ?_⟩
                          rw [hodd, show oddG t k x 9 wi si at_ n = ⟨t.frame, t.tens.set k (⟨x.unit, x.fns, x.queue, x.wins, x.slts⟩ : Ten)⟩ by simp only [oddG, oddX, Int.reduceEq, reduceCtorEq, ↓reduceIte, List.append_nil, modF_ge (show x.slts.length ≤ si by have := of_decide_eq_false hc14; first | omega | simp_all)]]
                          exact odd_done (by repeat (first | exact F1 | refine Fr.new ?_ _ | refine Fr.set ?_ (by omega) (by first | omega | (simp only [nxt_new, nxt_set]; omega)) _)) (by first | omega | (simp only [go_sem]; omega)) au (by omega) au ⟨.sl .clip [], .own (s.nxt + 1 + 1 + 1) 0 x.slts.length, rfl, .inl ⟨.clip, by simp [hwe]⟩, .inr ⟨(s.nxt + 1 + 1 + 1), _, by simp, by omega, (by first | (exact au) | (simp only [List.map_set, List.map_append, List.map_cons, List.map_nil]; exact au))⟩⟩
                      · have hc := hc13
                        refine rs (k := rg [3, 4, 8, 10, 11, 12, 56, 198] (k := rc (ht := fun hc15 => ?_) (hf := fun hc15 => ?_)))
                        · have hc := hc15
                          refine rs (k := rg [3, 4, 8, 10, 12, 206] (k := rc (ht := fun hc16 => ?_) (hf := fun hc16 => ?_)))
                          · have hc := hc16
                            have hsl2 : si < x.slts.length := by have := of_decide_eq_true hc; omega
                            have hsi1 : ((si : Int) < (x.slts.length : Int)) = True := eq_true (by omega)
                            obtain ⟨a, hae⟩ : ∃ z_, x.slts[si]'hsl2 = z_ := ⟨_, rfl⟩
                            have hxa : (x.slts.map Slt.pv)[si]? = some (.agg [.int .i64 (a).pos, .int .i64 (a).len]) := by rw [map_get hsl2, hae]; rfl
                            have H := aj hsi1 (aj hxa H)
                            refine rg [4, 8] (k := rB (k := ?_))
                            have hw9 : wv = 10 := by have h := of_decide_eq_true hc15; omega
                            subst hw9
                            refine rp [4, 8] (k := ?_)
                            refine hJb0 _ _ ⟨rfl, au, ?_⟩
                            rw [hodd, show oddG t k x 10 wi si at_ n = ⟨t.frame, t.tens.set k (⟨x.unit, x.fns, x.queue, x.wins, x.slts.set si ⟨a.pos, n⟩⟩ : Ten)⟩ by simp only [oddG, oddX, Int.reduceEq, reduceCtorEq, ↓reduceIte, List.append_nil, modF_lt hsl2 hae]]
                            exact odd_done (by repeat (first | exact F1 | refine Fr.new ?_ _ | refine Fr.set ?_ (by omega) (by first | omega | (simp only [nxt_new, nxt_set]; omega)) _)) (by first | omega | (simp only [go_sem]; omega)) au (by omega) au ⟨.sl .clip [], .own (s.nxt + 1 + 1 + 1) 0 x.slts.length, rfl, .inl ⟨.clip, by simp [hwe]⟩, .inr ⟨(s.nxt + 1 + 1 + 1), _, by simp, by omega, (by first | (exact au) | (simp only [List.map_set, List.map_append, List.map_cons, List.map_nil]; exact au))⟩⟩
                          · have hc := hc16
                            refine rk (k := rB (k := ?_))
                            have hw9 : wv = 10 := by have h := of_decide_eq_true hc15; omega
                            subst hw9
                            refine rp [4, 8] (k := ?_)
                            refine hJb0 _ _ ⟨rfl, au, ?_⟩
                            rw [hodd, show oddG t k x 10 wi si at_ n = ⟨t.frame, t.tens.set k (⟨x.unit, x.fns, x.queue, x.wins, x.slts⟩ : Ten)⟩ by simp only [oddG, oddX, Int.reduceEq, reduceCtorEq, ↓reduceIte, List.append_nil, modF_ge (show x.slts.length ≤ si by have := of_decide_eq_false hc16; first | omega | simp_all)]]
                            exact odd_done (by repeat (first | exact F1 | refine Fr.new ?_ _ | refine Fr.set ?_ (by omega) (by first | omega | (simp only [nxt_new, nxt_set]; omega)) _)) (by first | omega | (simp only [go_sem]; omega)) au (by omega) au ⟨.sl .clip [], .own (s.nxt + 1 + 1 + 1) 0 x.slts.length, rfl, .inl ⟨.clip, by simp [hwe]⟩, .inr ⟨(s.nxt + 1 + 1 + 1), _, by simp, by omega, (by first | (exact au) | (simp only [List.map_set, List.map_append, List.map_cons, List.map_nil]; exact au))⟩⟩
                        · have hc := hc15
                          refine rs (k := rg [3, 4, 8, 10, 11, 56, 215] (k := rc (ht := fun hc17 => ?_) (hf := fun hc17 => ?_)))
                          · have hc := hc17
                            refine Run.drawCut 6 [] Try.mixed (by kernel_rfl) (by kernel_rfl) ?_
                            refine DetC.all au ?_
                            refine RunO.appendOwn au au au Try.td22 (by rw [Try.zp53]; rfl) (fun p hp => by rw [List.mem_singleton.1 hp]; exact ⟨rfl, by rw [Try.cz53]; rfl⟩) (by rw [Try.by53]; decide) (by rw [Try.by53]; simp; omega) (v := .own s1.nxt 0 (t.tens.length + 1)) (s' := (s1.set (s.nxt + 1 + 1) none).new (.row 53 ((t.tens.map Ten.pv).set k (.agg [.int .i64 x.unit, .int .u32 x.fns, .int .i64 x.queue, .sl .clip [], .own (s.nxt + 1 + 1 + 1) 0 x.slts.length]) ++ [.agg [.int .i64 x.unit, .int .u32 x.fns, .int .i64 x.queue, .sl .clip [], .own (s.nxt + 1 + 1 + 1) 0 x.slts.length]]))) (by unfold aAppendOwn; rw [bA]; simp only [ne_eq, List.cons_ne_nil, not_false_eq_true, List.length_set, List.length_map, Nat.le_refl, and_self, if_true, List.length_cons, List.length_nil, Nat.zero_add]; rw [List.take_of_length_le (by simp)]) ?_
                            refine rh [4, 8] (k := rB (k := ?_))
                            have hw9 : wv = 11 := by have h := of_decide_eq_true hc17; omega
                            subst hw9
                            refine rp [4, 8] (k := ?_)
                            refine hJb0 _ _ ⟨rfl, au, ?_⟩
                            rw [hodd, show oddG t k x 11 wi si at_ n = ⟨t.frame, t.tens.set k (⟨x.unit, x.fns, x.queue, x.wins, x.slts⟩ : Ten) ++ [(⟨x.unit, x.fns, x.queue, x.wins, x.slts⟩ : Ten)]⟩ by simp only [oddG, oddX, Int.reduceEq, reduceCtorEq, ↓reduceIte, List.append_nil]]
                            exact odd_app (by repeat (first | exact F1 | refine Fr.new ?_ _ | refine Fr.set ?_ (by omega) (by first | omega | (simp only [nxt_new, nxt_set]; omega)) _)) (by first | omega | (simp only [go_sem]; omega)) au (by omega) au ⟨.sl .clip [], .own (s.nxt + 1 + 1 + 1) 0 x.slts.length, rfl, .inl ⟨.clip, by simp [hwe]⟩, .inr ⟨(s.nxt + 1 + 1 + 1), _, by simp, by omega, (by first | (exact au) | (simp only [List.map_set, List.map_append, List.map_cons, List.map_nil]; exact au))⟩⟩
                          · have hc := hc17
                            refine rs (k := rg [3, 4, 8, 10, 11, 225] (k := rc (ht := fun hc18 => ?_) (hf := fun hc18 => ?_)))
                            · have hc := hc18
                              refine rg [4, 8] (k := rB (k := ?_))
                              have hw9 : wv = 12 := by have h := of_decide_eq_true hc18; omega
                              subst hw9
                              refine rp [4, 8] (k := ?_)
                              refine hJb0 _ _ ⟨rfl, au, ?_⟩
                              rw [hodd, show oddG t k x 12 wi si at_ n = ⟨t.frame, t.tens.set k (⟨x.unit, x.fns, x.queue, x.wins, []⟩ : Ten)⟩ by simp only [oddG, oddX, Int.reduceEq, reduceCtorEq, ↓reduceIte, List.append_nil]]
                              exact odd_done (by repeat (first | exact F1 | refine Fr.new ?_ _ | refine Fr.set ?_ (by omega) (by first | omega | (simp only [nxt_new, nxt_set]; omega)) _)) (by first | omega | (simp only [go_sem]; omega)) au (by omega) au ⟨.sl .clip [], .sl .nil [], rfl, .inl ⟨.clip, by simp [hwe]⟩, .inl ⟨.nil, rfl⟩⟩
                            · have hc := hc18
                              refine rs (k := rg [3, 4, 8, 10, 11, 63] (k := rc (ht := fun hc19 => ?_) (hf := fun hc19 => ?_)))
                              · have hc := hc19
                                exfalso
                                have h := of_decide_eq_true hc
                                first | omega | (simp at h; omega)
                              · have hc := hc19
                                refine rk (k := rB (k := ?_))
                                have hw9 : wv = 13 := by have := of_decide_eq_false hc1; have := of_decide_eq_false hc2; have := of_decide_eq_false hc3; have := of_decide_eq_false hc4; have := of_decide_eq_false hc5; have := of_decide_eq_false hc6; have := of_decide_eq_false hc7; have := of_decide_eq_false hc9; have := of_decide_eq_false hc11; have := of_decide_eq_false hc13; have := of_decide_eq_false hc15; have := of_decide_eq_false hc17; have := of_decide_eq_false hc18; omega
                                subst hw9
                                refine rp [4, 8] (k := ?_)
                                refine hJb0 _ _ ⟨rfl, au, ?_⟩
                                rw [hodd, show oddG t k x 13 wi si at_ n = ⟨t.frame, t.tens.set k (⟨x.unit, x.fns, x.queue, x.wins, x.slts⟩ : Ten)⟩ by simp only [oddG, oddX, Int.reduceEq, reduceCtorEq, ↓reduceIte, List.append_nil, modF_ge (show x.wins.length ≤ wi by have := of_decide_eq_false hc19; first | omega | simp_all)]]
                                exact odd_done (by repeat (first | exact F1 | refine Fr.new ?_ _ | refine Fr.set ?_ (by omega) (by first | omega | (simp only [nxt_new, nxt_set]; omega)) _)) (by first | omega | (simp only [go_sem]; omega)) au (by omega) au ⟨.sl .clip [], .own (s.nxt + 1 + 1 + 1) 0 x.slts.length, rfl, .inl ⟨.clip, by simp [hwe]⟩, .inr ⟨(s.nxt + 1 + 1 + 1), _, by simp, by omega, (by first | (exact au) | (simp only [List.map_set, List.map_append, List.map_cons, List.map_nil]; exact au))⟩⟩
set_option maxRecDepth 100000 in
theorem odd_nn {t : Tab} {m : Nat} (hm : m ≤ 1000) (ht : t.few m) {what at_ n : Int} (hwI : I64 what) (haI : I64 at_) (hnI : I64 n) {k : Nat} (hkw : withinI at_ 0 (t.tens.length - 1) = k) (hkl : k < t.tens.length) {x : Ten} (hxe : t.tens[k] = x) (hwe : x.wins = []) (hse : x.slts = []) {s : St} : ACalls Try.prog 12 [t.pv, .int .i64 what, .int .i64 at_, .int .i64 n] s (fun r s' => r = (oddF t what at_ n).pv ∧ s' = s) := by
  refine go Try.func12 (k := fun hwf H => ?_)
  have hnt := ht.nt
  have hxm : x ∈ t.tens := by rw [← hxe]; exact List.getElem_mem _
  have hnw := ht.nw x hxm
  have hns := ht.ns x hxm
  have hte : t.tens ≠ [] := fun h => by rw [h] at hkl; simp at hkl
  have hxx : (t.tens.map Ten.pv)[k]? = some (.agg [.int .i64 (x).unit, .int .u32 (x).fns, .int .i64 (x).queue, .sl .unk ((x).wins.map Win.pv), .sl .unk ((x).slts.map Slt.pv)]) := by rw [map_get hkl, hxe]; rfl
  have hgs : ∀ X, ((t.tens.map Ten.pv).set k X)[k]? = some X := fun X => by rw [List.getElem?_set]; simp [hkl]
  have hwl : IntKind.i64.wrap ((t.tens.length : Int) - 1) = (t.tens.length : Int) - 1 := wrap_i64 (by omega)
  have htl0 : ((t.tens.length : Int) = 0) = False := eq_false (by omega)
  have hk2 : ((k : Int) < (t.tens.length : Int)) = True := eq_true (by omega)
  have H := aj hgs (aj hwl (aj hkw (aj hk2 (aj htl0 (aj hwe (aj hse H))))))
  refine rs (k := rg [1, 2, 3, 4, 8] (k := rs (k := rr (k := rO (k := ro (pre := [_, _]) (k := ?_))))))
  refine RunO.appendFirst au au au Try.td22 (by rw [Try.zp53]; rfl) (isEls_none _ _) (isEls_map (f := Ten.pv) (fun a => ⟨rfl, by rw [Try.cz53]; rfl⟩) _) (by rw [Try.by53]; decide) (by rw [Try.by53]; simp; omega) (by simp only [aAppendFirst, List.map_eq_nil_iff, ne_eq, hte, not_false_eq_true, if_true, List.length_nil, Nat.zero_add, List.length_map, List.nil_append, go_sem]; rfl) ?_
  refine rh [1, 2, 3, 4, 8] (k := rs (k := rs (k := rg [1, 2, 3, 4, 8, 21] (k := rc (ht := fun hc0 => ?_) (hf := fun hc0 => ?_)))))
  · cases hc0
  · have hc := hc0
    refine rk (k := rs (k := rr (k := ro (pre := [_, _, _, _, _]) (k := rC (h := within_ (lo := 0) (hi := (t.tens.length : Int) - 1) (by decide) (by omega) (by omega)) (k := rh [1, 2, 3, 4, 8, 9] (k := rs (k := rg [1, 2, 3, 4, 8, 10] (k := rs (k := ?_)))))))))
    have H := aj hxx H
    refine rr (k := ro (pre := [_]) (k := rO (k := ro (pre := [_, _, _, _]) (k := ?_))))
    refine RunO.append au au au Try.td50 (by rw [Try.zp65]; rfl) (isEls_none _ _) (isEls_none _ _) (by rw [Try.by65]; decide) (by simp) (v := .sl .clip []) (by unfold aAppend; rw [if_pos rfl]) ?_
    refine rh [1, 2, 3, 4, 8, 10] (k := rs (k := rr (k := ro (pre := [_]) (k := rO (k := ro (pre := [_, _, _, _]) (k := ?_))))))
    refine RunO.append au au au Try.td51 (by rw [Try.zp60]; rfl) (isEls_none _ _) (isEls_none _ _) (by rw [Try.by60]; decide) (by simp) (v := .sl .clip []) (by unfold aAppend; rw [if_pos rfl]) ?_
    refine rh [1, 2, 3, 4, 8, 10] (k := rs (k := ?_))
    refine Run.abs (fun s1 => Fr s s1 ∧ s1.nxt = s.nxt + 1 + 1 + 1 ∧ s1.blk s.nxt = some (.row 24 [.agg [.int .i64 t.frame, .own (s.nxt + 1 + 1) 0 t.tens.length]]) ∧ s1.blk (s.nxt + 1) = some (.row 24 [.agg [.int .i64 0, .sl .nil []]]) ∧ s1.blk (s.nxt + 1 + 1) = some (.row 53 ((t.tens.map Ten.pv).set k (.agg [.int .i64 x.unit, .int .u32 x.fns, .int .i64 x.queue, .sl .clip [], .sl .clip []])))) ⟨by repeat (first | exact Fr.refl hwf | refine Fr.new ?_ _ | refine Fr.set ?_ (by omega) (by simp only [nxt_new, nxt_set]; omega) _), by simp only [go_sem], by simp only [go_sem, ↓reduceIte, Nat.reduceEqDiff, Nat.reduceAdd], by simp only [go_sem, ↓reduceIte, Nat.reduceEqDiff, Nat.reduceAdd], by simp only [go_sem, ↓reduceIte, Nat.reduceEqDiff, Nat.reduceAdd]⟩ ?_
    rintro s1 ⟨F1, hn1, b4, b8, bA⟩
    have hwi0 := withinI_bound (n := n) (lo := 0) (hi := 5) (by decide)
    have hsi0 := withinI_bound (n := n) (lo := 0) (hi := 2) (by decide)
    obtain ⟨wi, hwi⟩ : ∃ y : Nat, withinI n 0 5 = y := ⟨_, (Int.toNat_of_nonneg hwi0.1).symm⟩
    obtain ⟨si, hsi⟩ : ∃ y : Nat, withinI n 0 2 = y := ⟨_, (Int.toNat_of_nonneg hsi0.1).symm⟩
    have z0 : (s.nxt = s1.nxt) = False := eq_false (by omega)
    have z1 : (s.nxt + 1 = s1.nxt) = False := eq_false (by omega)
    have z2 : (s.nxt + 1 + 1 = s1.nxt) = False := eq_false (by omega)
    have y0 : (s1.nxt = s.nxt) = False := eq_false (by omega)
    have y1 : (s1.nxt = s.nxt + 1) = False := eq_false (by omega)
    have y2 : (s1.nxt = s.nxt + 1 + 1) = False := eq_false (by omega)
    have H := aj b4 (aj b8 (aj bA (aj hwi (aj hsi (aj z0 (aj z1 (aj z2 (aj y0 (aj y1 (aj y2 H))))))))))
    refine rr (k := ro (pre := [_]) (k := rC (h := within_ (lo := 0) (hi := 5) (by decide) (by decide) (by decide)) (k := ro (pre := [_]) (k := rC (h := within_ (lo := 0) (hi := 2) (by decide) (by decide) (by decide)) (k := rh [1, 2, 3, 4, 8, 10, 11, 12] (k := rs (k := rs (k := rr (k := ro (pre := [_]) (k := rC (h := within_ (lo := 0) (hi := 13) (by decide) (by decide) (by decide)) (k := ?_)))))))))))
    refine rl [2, 3, 4, 8, 10, 11, 12, 56] (k := ?_)
    refine Run.join (fun e s' => e = [(4, .ptr s.nxt 0 0), (8, .ptr (s.nxt + 1) 0 0)] ∧ s'.blk (s.nxt + 1) = some (.row 24 [.agg [.int .i64 0, .sl .nil []]]) ∧ OddR s s' (oddF t what at_ n)) ?_ ?_
    · rintro e s2 ⟨rfl, r0, hO⟩
      obtain ⟨A', els, r1, r2, r3, r4, r5⟩ := hO.row
      have H := aj r0 (aj r1 H)
      refine rs (k := rg [8] (k := rR (k := ?_)))
      exact Ret.pureF (r' := (oddF t what at_ n).pv) 7 (by simp only [Try.f12, go_sem, ↓reduceIte, r0, r1] <;> rfl) ((hO.set _).frz (by simp only [go_sem, ↓reduceIte]; exact r1)) (blw_tab _ _) hwf (hO.set _).fr.blk ⟨rfl, rfl⟩
    intro hJb0
    refine rb (k := rs (k := ?_))
    obtain ⟨wv, hwv⟩ : ∃ y, withinI what 0 13 = y := ⟨_, rfl⟩
    have hwb := withinI_bound (n := what) (lo := 0) (hi := 13) (by decide)
    have hodd := oddF_eq hkw hkl hxe hwv hwi hsi (at_ := at_)
    rw [hwv]
    rw [hwv] at hwb
    refine rg [2, 3, 4, 8, 10, 11, 12, 56, 73] (k := rc (ht := fun hc1 => ?_) (hf := fun hc1 => ?_))
    · have hc := hc1
      refine rg [4, 8] (k := rB (k := ?_))
      have hw9 : wv = 0 := by have h := of_decide_eq_true hc1; omega
      subst hw9
      refine rp [4, 8] (k := ?_)
      refine hJb0 _ _ ⟨rfl, au, ?_⟩
      rw [hodd, show oddG t k x 0 wi si at_ n = ⟨n, t.tens.set k (⟨x.unit, x.fns, x.queue, x.wins, x.slts⟩ : Ten)⟩ by simp only [oddG, oddX, Int.reduceEq, reduceCtorEq, ↓reduceIte, List.append_nil]]
      exact odd_done (by repeat (first | exact F1 | refine Fr.new ?_ _ | refine Fr.set ?_ (by omega) (by first | omega | (simp only [nxt_new, nxt_set]; omega)) _)) (by first | omega | (simp only [go_sem]; omega)) au (by omega) au ⟨.sl .clip [], .sl .clip [], rfl, .inl ⟨.clip, by simp [hwe]⟩, .inl ⟨.clip, by simp [hse]⟩⟩
    · have hc := hc1
      refine rs (k := rg [2, 3, 4, 8, 10, 11, 12, 56, 77] (k := rc (ht := fun hc2 => ?_) (hf := fun hc2 => ?_)))
      · have hc := hc2
        refine rg [4, 8] (k := rB (k := ?_))
        have hw9 : wv = 1 := by have h := of_decide_eq_true hc2; omega
        subst hw9
        refine rp [4, 8] (k := ?_)
        refine hJb0 _ _ ⟨rfl, au, ?_⟩
        rw [hodd, show oddG t k x 1 wi si at_ n = ⟨t.frame, t.tens.set k (⟨n, x.fns, x.queue, x.wins, x.slts⟩ : Ten)⟩ by simp only [oddG, oddX, Int.reduceEq, reduceCtorEq, ↓reduceIte, List.append_nil]]
        exact odd_done (by repeat (first | exact F1 | refine Fr.new ?_ _ | refine Fr.set ?_ (by omega) (by first | omega | (simp only [nxt_new, nxt_set]; omega)) _)) (by first | omega | (simp only [go_sem]; omega)) au (by omega) au ⟨.sl .clip [], .sl .clip [], rfl, .inl ⟨.clip, by simp [hwe]⟩, .inl ⟨.clip, by simp [hse]⟩⟩
      · have hc := hc2
        refine rs (k := rg [2, 3, 4, 8, 10, 11, 12, 56, 83] (k := rc (ht := fun hc3 => ?_) (hf := fun hc3 => ?_)))
        · have hc := hc3
          refine rg [4, 8] (k := rB (k := ?_))
          have hw9 : wv = 2 := by have h := of_decide_eq_true hc3; omega
          subst hw9
          refine rp [4, 8] (k := ?_)
          refine hJb0 _ _ ⟨rfl, au, ?_⟩
          rw [hodd, show oddG t k x 2 wi si at_ n = ⟨t.frame, t.tens.set k (⟨x.unit, x.fns, n, x.wins, x.slts⟩ : Ten)⟩ by simp only [oddG, oddX, Int.reduceEq, reduceCtorEq, ↓reduceIte, List.append_nil]]
          exact odd_done (by repeat (first | exact F1 | refine Fr.new ?_ _ | refine Fr.set ?_ (by omega) (by first | omega | (simp only [nxt_new, nxt_set]; omega)) _)) (by first | omega | (simp only [go_sem]; omega)) au (by omega) au ⟨.sl .clip [], .sl .clip [], rfl, .inl ⟨.clip, by simp [hwe]⟩, .inl ⟨.clip, by simp [hse]⟩⟩
        · have hc := hc3
          refine rs (k := rg [2, 3, 4, 8, 10, 11, 12, 56, 89] (k := rc (ht := fun hc4 => ?_) (hf := fun hc4 => ?_)))
          · have hc := hc4
            refine rg [4, 8] (k := rB (k := ?_))
            have hw9 : wv = 3 := by have h := of_decide_eq_true hc4; omega
            subst hw9
            refine rp [4, 8] (k := ?_)
            refine hJb0 _ _ ⟨rfl, au, ?_⟩
            rw [hodd, show oddG t k x 3 wi si at_ n = ⟨t.frame, t.tens.set k (⟨x.unit, IntKind.u32.wrap n, x.queue, x.wins, x.slts⟩ : Ten)⟩ by simp only [oddG, oddX, Int.reduceEq, reduceCtorEq, ↓reduceIte, List.append_nil]]
            exact odd_done (by repeat (first | exact F1 | refine Fr.new ?_ _ | refine Fr.set ?_ (by omega) (by first | omega | (simp only [nxt_new, nxt_set]; omega)) _)) (by first | omega | (simp only [go_sem]; omega)) au (by omega) au ⟨.sl .clip [], .sl .clip [], rfl, .inl ⟨.clip, by simp [hwe]⟩, .inl ⟨.clip, by simp [hse]⟩⟩
          · have hc := hc4
            refine rs (k := rg [2, 3, 4, 8, 10, 11, 12, 56, 96] (k := rc (ht := fun hc5 => ?_) (hf := fun hc5 => ?_)))
            · have hc := hc5
              refine rr (k := ro (pre := [_, _, _, _, _, _, _]) (k := rO (k := ?_)))
              refine RunO.appendFirst au au au Try.td51 (by rw [Try.zp60]; rfl) (isEls_none _ _) (isEls_map (f := Slt.pv) (fun a => ⟨rfl, by rw [Try.cz60]; rfl⟩) [⟨n, 72⟩]) (by rw [Try.by60]; decide) (by rw [Try.by60]; simp) (v := .own s1.nxt 0 1) (s' := s1.new (.row 60 [.agg [.int .i64 n, .int .i64 72]])) (by simp [aAppendFirst, Slt.pv, Win.pv]) ?_
              refine rh [4, 8] (k := rB (k := ?_))
              have hw9 : wv = 4 := by have h := of_decide_eq_true hc5; omega
              subst hw9
              refine rp [4, 8] (k := ?_)
              refine hJb0 _ _ ⟨rfl, au, ?_⟩
              rw [hodd, show oddG t k x 4 wi si at_ n = ⟨t.frame, t.tens.set k (⟨x.unit, x.fns, x.queue, x.wins, x.slts ++ [⟨n, 72⟩]⟩ : Ten)⟩ by simp only [oddG, oddX, Int.reduceEq, reduceCtorEq, ↓reduceIte, List.append_nil]]
              exact odd_done (by repeat (first | exact F1 | refine Fr.new ?_ _ | refine Fr.set ?_ (by omega) (by first | omega | (simp only [nxt_new, nxt_set]; omega)) _)) (by first | omega | (simp only [go_sem]; omega)) au (by omega) au ⟨.sl .clip [], .own s1.nxt 0 1, rfl, .inl ⟨.clip, by simp [hwe]⟩, .inr ⟨s1.nxt, _, by simp [hse], by omega, (by first | (exact au) | (simp only [List.map_set, List.map_append, List.map_cons, List.map_nil]; exact au))⟩⟩
            · have hc := hc5
              refine rs (k := rg [2, 3, 4, 8, 10, 11, 12, 56, 109] (k := rc (ht := fun hc6 => ?_) (hf := fun hc6 => ?_)))
              · have hc := hc6
                have hb0 := ibits_and_le n 3 (by decide)
                have hb1 := ibits_and_le at_ 1023 (by decide)
                have hb2 := ibits_and_le n 511 (by decide)
                have hb3 := ibits_and_le at_ 31 (by decide)
                obtain ⟨g0, hg0⟩ : ∃ y, ibits .and .i64 n 3 = y := ⟨_, rfl⟩
                obtain ⟨g1, hg1⟩ : ∃ y, ibits .and .i64 at_ 1023 = y := ⟨_, rfl⟩
                obtain ⟨g2, hg2⟩ : ∃ y, ibits .and .i64 n 511 = y := ⟨_, rfl⟩
                obtain ⟨g4, hg4⟩ : ∃ y, ibits .and .i64 at_ 31 = y := ⟨_, rfl⟩
                have hb0 : 0 ≤ g0 ∧ g0 ≤ 3 := hg0 ▸ hb0
                have hb1 : 0 ≤ g1 ∧ g1 ≤ 1023 := hg1 ▸ hb1
                have hb2 : 0 ≤ g2 ∧ g2 ≤ 511 := hg2 ▸ hb2
                have hb3 : 0 ≤ g4 ∧ g4 ≤ 31 := hg4 ▸ hb3
                have hg3 : IntKind.i64.wrap (1 + g4) = 1 + g4 := wrap_i64 (by omega)
                have H := aj hg0 (aj hg1 (aj hg2 (aj hg4 (aj hg3 H))))
                refine rr (k := ro (pre := [_, _, _, _, _, _, _, _, _, _, _, _, _, _, _]) (k := rO (k := ?_)))
                refine RunO.appendFirst au au au Try.td50 (by rw [Try.zp65]; rfl) (isEls_none _ _) (isEls_map (f := Win.pv) (fun a => ⟨rfl, by rw [Try.cz65]; rfl⟩) [⟨g0, g1, g2, 1 + g4⟩]) (by rw [Try.by65]; decide) (by rw [Try.by65]; simp) (v := .own s1.nxt 0 1) (s' := s1.new (.row 65 [.agg [.int .i64 g0, .int .i64 g1, .int .i64 g2, .int .i64 (1 + g4)]])) (by simp [aAppendFirst, Slt.pv, Win.pv]) ?_
                refine rh [4, 8] (k := rB (k := ?_))
                have hw9 : wv = 5 := by have h := of_decide_eq_true hc6; omega
                subst hw9
                refine rp [4, 8] (k := ?_)
                refine hJb0 _ _ ⟨rfl, au, ?_⟩
                rw [hodd, show oddG t k x 5 wi si at_ n = ⟨t.frame, t.tens.set k (⟨x.unit, x.fns, x.queue, x.wins ++ [⟨g0, g1, g2, 1 + g4⟩], x.slts⟩ : Ten)⟩ by simp only [oddG, oddX, Int.reduceEq, reduceCtorEq, ↓reduceIte, List.append_nil, hg0, hg1, hg2, hg4]]
                exact odd_done (by repeat (first | exact F1 | refine Fr.new ?_ _ | refine Fr.set ?_ (by omega) (by first | omega | (simp only [nxt_new, nxt_set]; omega)) _)) (by first | omega | (simp only [go_sem]; omega)) au (by omega) au ⟨.own s1.nxt 0 1, .sl .clip [], rfl, .inr ⟨s1.nxt, _, by simp [hwe], by omega, (by first | (exact au) | (simp only [List.map_set, List.map_append, List.map_cons, List.map_nil]; exact au))⟩, .inl ⟨.clip, by simp [hse]⟩⟩
              · have hc := hc6
                refine rs (k := rg [3, 4, 8, 10, 11, 12, 56, 130] (k := rc (ht := fun hc7 => ?_) (hf := fun hc7 => ?_)))
                · have hc := hc7
                  refine rs (k := rg [3, 4, 8, 10, 11, 138] (k := rc (ht := fun hc8 => ?_) (hf := fun hc8 => ?_)))
                  · have hc := hc8
                    exfalso
                    have h := of_decide_eq_true hc
                    first | omega | (simp at h; omega)
                  · have hc := hc8
                    refine rk (k := rB (k := ?_))
                    have hw9 : wv = 6 := by have h := of_decide_eq_true hc7; omega
                    subst hw9
                    refine rp [4, 8] (k := ?_)
                    refine hJb0 _ _ ⟨rfl, au, ?_⟩
                    rw [hodd, show oddG t k x 6 wi si at_ n = ⟨t.frame, t.tens.set k (⟨x.unit, x.fns, x.queue, x.wins, x.slts⟩ : Ten)⟩ by simp only [oddG, oddX, Int.reduceEq, reduceCtorEq, ↓reduceIte, List.append_nil, modF_ge (show x.wins.length ≤ wi by have := of_decide_eq_false hc8; first | omega | simp_all)]]
                    exact odd_done (by repeat (first | exact F1 | refine Fr.new ?_ _ | refine Fr.set ?_ (by omega) (by first | omega | (simp only [nxt_new, nxt_set]; omega)) _)) (by first | omega | (simp only [go_sem]; omega)) au (by omega) au ⟨.sl .clip [], .sl .clip [], rfl, .inl ⟨.clip, by simp [hwe]⟩, .inl ⟨.clip, by simp [hse]⟩⟩
                · have hc := hc7
                  refine rs (k := rg [3, 4, 8, 10, 11, 12, 56, 147] (k := rc (ht := fun hc9 => ?_) (hf := fun hc9 => ?_)))
                  · have hc := hc9
                    refine rs (k := rg [3, 4, 8, 10, 11, 155] (k := rc (ht := fun hc10 => ?_) (hf := fun hc10 => ?_)))
                    · have hc := hc10
                      exfalso
                      have h := of_decide_eq_true hc
                      first | omega | (simp at h; omega)
                    · have hc := hc10
                      refine rk (k := rB (k := ?_))
                      have hw9 : wv = 7 := by have h := of_decide_eq_true hc9; omega
                      subst hw9
                      refine rp [4, 8] (k := ?_)
                      refine hJb0 _ _ ⟨rfl, au, ?_⟩
                      rw [hodd, show oddG t k x 7 wi si at_ n = ⟨t.frame, t.tens.set k (⟨x.unit, x.fns, x.queue, x.wins, x.slts⟩ : Ten)⟩ by simp only [oddG, oddX, Int.reduceEq, reduceCtorEq, ↓reduceIte, List.append_nil, modF_ge (show x.wins.length ≤ wi by have := of_decide_eq_false hc10; first | omega | simp_all)]]
                      exact odd_done (by repeat (first | exact F1 | refine Fr.new ?_ _ | refine Fr.set ?_ (by omega) (by first | omega | (simp only [nxt_new, nxt_set]; omega)) _)) (by first | omega | (simp only [go_sem]; omega)) au (by omega) au ⟨.sl .clip [], .sl .clip [], rfl, .inl ⟨.clip, by simp [hwe]⟩, .inl ⟨.clip, by simp [hse]⟩⟩
                  · have hc := hc9
                    refine rs (k := rg [3, 4, 8, 10, 11, 12, 56, 164] (k := rc (ht := fun hc11 => ?_) (hf := fun hc11 => ?_)))
                    · have hc := hc11
                      refine rs (k := rg [3, 4, 8, 10, 11, 172] (k := rc (ht := fun hc12 => ?_) (hf := fun hc12 => ?_)))
                      · have hc := hc12
                        exfalso
                        have h := of_decide_eq_true hc
                        first | omega | (simp at h; omega)
                      · have hc := hc12
                        refine rk (k := rB (k := ?_))
                        have hw9 : wv = 8 := by have h := of_decide_eq_true hc11; omega
                        subst hw9
                        refine rp [4, 8] (k := ?_)
                        refine hJb0 _ _ ⟨rfl, au, ?_⟩
                        rw [hodd, show oddG t k x 8 wi si at_ n = ⟨t.frame, t.tens.set k (⟨x.unit, x.fns, x.queue, x.wins, x.slts⟩ : Ten)⟩ by simp only [oddG, oddX, Int.reduceEq, reduceCtorEq, ↓reduceIte, List.append_nil, modF_ge (show x.wins.length ≤ wi by have := of_decide_eq_false hc12; first | omega | simp_all)]]
                        exact odd_done (by repeat (first | exact F1 | refine Fr.new ?_ _ | refine Fr.set ?_ (by omega) (by first | omega | (simp only [nxt_new, nxt_set]; omega)) _)) (by first | omega | (simp only [go_sem]; omega)) au (by omega) au ⟨.sl .clip [], .sl .clip [], rfl, .inl ⟨.clip, by simp [hwe]⟩, .inl ⟨.clip, by simp [hse]⟩⟩
                    · have hc := hc11
                      refine rs (k := rg [3, 4, 8, 10, 11, 12, 56, 181] (k := rc (ht := fun hc13 => ?_) (hf := fun hc13 => ?_)))
                      · have hc := hc13
                        refine rs (k := rg [3, 4, 8, 10, 12, 189] (k := rc (ht := fun hc14 => ?_) (hf := fun hc14 => ?_)))
                        · have hc := hc14
                          exfalso
                          have h := of_decide_eq_true hc
                          first | omega | (simp at h; omega)
                        · have hc := hc14
                          refine rk (k := rB (k := ?_))
                          have hw9 : wv = 9 := by have h := of_decide_eq_true hc13; omega
                          subst hw9
                          refine rp [4, 8] (k := ?_)
                          refine hJb0 _ _ ⟨rfl, au, ?_⟩
                          rw [hodd, show oddG t k x 9 wi si at_ n = ⟨t.frame, t.tens.set k (⟨x.unit, x.fns, x.queue, x.wins, x.slts⟩ : Ten)⟩ by simp only [oddG, oddX, Int.reduceEq, reduceCtorEq, ↓reduceIte, List.append_nil, modF_ge (show x.slts.length ≤ si by have := of_decide_eq_false hc14; first | omega | simp_all)]]
                          exact odd_done (by repeat (first | exact F1 | refine Fr.new ?_ _ | refine Fr.set ?_ (by omega) (by first | omega | (simp only [nxt_new, nxt_set]; omega)) _)) (by first | omega | (simp only [go_sem]; omega)) au (by omega) au ⟨.sl .clip [], .sl .clip [], rfl, .inl ⟨.clip, by simp [hwe]⟩, .inl ⟨.clip, by simp [hse]⟩⟩
                      · have hc := hc13
                        refine rs (k := rg [3, 4, 8, 10, 11, 12, 56, 198] (k := rc (ht := fun hc15 => ?_) (hf := fun hc15 => ?_)))
                        · have hc := hc15
                          refine rs (k := rg [3, 4, 8, 10, 12, 206] (k := rc (ht := fun hc16 => ?_) (hf := fun hc16 => ?_)))
                          · have hc := hc16
                            exfalso
                            have h := of_decide_eq_true hc
                            first | omega | (simp at h; omega)
                          · have hc := hc16
                            refine rk (k := rB (k := ?_))
                            have hw9 : wv = 10 := by have h := of_decide_eq_true hc15; omega
                            subst hw9
                            refine rp [4, 8] (k := ?_)
                            refine hJb0 _ _ ⟨rfl, au, ?_⟩
                            rw [hodd, show oddG t k x 10 wi si at_ n = ⟨t.frame, t.tens.set k (⟨x.unit, x.fns, x.queue, x.wins, x.slts⟩ : Ten)⟩ by simp only [oddG, oddX, Int.reduceEq, reduceCtorEq, ↓reduceIte, List.append_nil, modF_ge (show x.slts.length ≤ si by have := of_decide_eq_false hc16; first | omega | simp_all)]]
                            exact odd_done (by repeat (first | exact F1 | refine Fr.new ?_ _ | refine Fr.set ?_ (by omega) (by first | omega | (simp only [nxt_new, nxt_set]; omega)) _)) (by first | omega | (simp only [go_sem]; omega)) au (by omega) au ⟨.sl .clip [], .sl .clip [], rfl, .inl ⟨.clip, by simp [hwe]⟩, .inl ⟨.clip, by simp [hse]⟩⟩
                        · have hc := hc15
                          refine rs (k := rg [3, 4, 8, 10, 11, 56, 215] (k := rc (ht := fun hc17 => ?_) (hf := fun hc17 => ?_)))
                          · have hc := hc17
                            refine Run.drawCut 6 [] Try.mixed (by kernel_rfl) (by kernel_rfl) ?_
                            refine DetC.all au ?_
                            refine RunO.appendOwn au au au Try.td22 (by rw [Try.zp53]; rfl) (fun p hp => by rw [List.mem_singleton.1 hp]; exact ⟨rfl, by rw [Try.cz53]; rfl⟩) (by rw [Try.by53]; decide) (by rw [Try.by53]; simp; omega) (v := .own s1.nxt 0 (t.tens.length + 1)) (s' := (s1.set (s.nxt + 1 + 1) none).new (.row 53 ((t.tens.map Ten.pv).set k (.agg [.int .i64 x.unit, .int .u32 x.fns, .int .i64 x.queue, .sl .clip [], .sl .clip []]) ++ [.agg [.int .i64 x.unit, .int .u32 x.fns, .int .i64 x.queue, .sl .clip [], .sl .clip []]]))) (by unfold aAppendOwn; rw [bA]; simp only [ne_eq, List.cons_ne_nil, not_false_eq_true, List.length_set, List.length_map, Nat.le_refl, and_self, if_true, List.length_cons, List.length_nil, Nat.zero_add]; rw [List.take_of_length_le (by simp)]) ?_
                            refine rh [4, 8] (k := rB (k := ?_))
                            have hw9 : wv = 11 := by have h := of_decide_eq_true hc17; omega
                            subst hw9
                            refine rp [4, 8] (k := ?_)
                            refine hJb0 _ _ ⟨rfl, au, ?_⟩
                            rw [hodd, show oddG t k x 11 wi si at_ n = ⟨t.frame, t.tens.set k (⟨x.unit, x.fns, x.queue, x.wins, x.slts⟩ : Ten) ++ [(⟨x.unit, x.fns, x.queue, x.wins, x.slts⟩ : Ten)]⟩ by simp only [oddG, oddX, Int.reduceEq, reduceCtorEq, ↓reduceIte, List.append_nil]]
                            exact odd_app (by repeat (first | exact F1 | refine Fr.new ?_ _ | refine Fr.set ?_ (by omega) (by first | omega | (simp only [nxt_new, nxt_set]; omega)) _)) (by first | omega | (simp only [go_sem]; omega)) au (by omega) au ⟨.sl .clip [], .sl .clip [], rfl, .inl ⟨.clip, by simp [hwe]⟩, .inl ⟨.clip, by simp [hse]⟩⟩
                          · have hc := hc17
                            refine rs (k := rg [3, 4, 8, 10, 11, 225] (k := rc (ht := fun hc18 => ?_) (hf := fun hc18 => ?_)))
                            · have hc := hc18
                              refine rg [4, 8] (k := rB (k := ?_))
                              have hw9 : wv = 12 := by have h := of_decide_eq_true hc18; omega
                              subst hw9
                              refine rp [4, 8] (k := ?_)
                              refine hJb0 _ _ ⟨rfl, au, ?_⟩
                              rw [hodd, show oddG t k x 12 wi si at_ n = ⟨t.frame, t.tens.set k (⟨x.unit, x.fns, x.queue, x.wins, []⟩ : Ten)⟩ by simp only [oddG, oddX, Int.reduceEq, reduceCtorEq, ↓reduceIte, List.append_nil]]
                              exact odd_done (by repeat (first | exact F1 | refine Fr.new ?_ _ | refine Fr.set ?_ (by omega) (by first | omega | (simp only [nxt_new, nxt_set]; omega)) _)) (by first | omega | (simp only [go_sem]; omega)) au (by omega) au ⟨.sl .clip [], .sl .nil [], rfl, .inl ⟨.clip, by simp [hwe]⟩, .inl ⟨.nil, rfl⟩⟩
                            · have hc := hc18
                              refine rs (k := rg [3, 4, 8, 10, 11, 63] (k := rc (ht := fun hc19 => ?_) (hf := fun hc19 => ?_)))
                              · have hc := hc19
                                exfalso
                                have h := of_decide_eq_true hc
                                first | omega | (simp at h; omega)
                              · have hc := hc19
                                refine rk (k := rB (k := ?_))
                                have hw9 : wv = 13 := by have := of_decide_eq_false hc1; have := of_decide_eq_false hc2; have := of_decide_eq_false hc3; have := of_decide_eq_false hc4; have := of_decide_eq_false hc5; have := of_decide_eq_false hc6; have := of_decide_eq_false hc7; have := of_decide_eq_false hc9; have := of_decide_eq_false hc11; have := of_decide_eq_false hc13; have := of_decide_eq_false hc15; have := of_decide_eq_false hc17; have := of_decide_eq_false hc18; omega
                                subst hw9
                                refine rp [4, 8] (k := ?_)
                                refine hJb0 _ _ ⟨rfl, au, ?_⟩
                                rw [hodd, show oddG t k x 13 wi si at_ n = ⟨t.frame, t.tens.set k (⟨x.unit, x.fns, x.queue, x.wins, x.slts⟩ : Ten)⟩ by simp only [oddG, oddX, Int.reduceEq, reduceCtorEq, ↓reduceIte, List.append_nil, modF_ge (show x.wins.length ≤ wi by have := of_decide_eq_false hc19; first | omega | simp_all)]]
                                exact odd_done (by repeat (first | exact F1 | refine Fr.new ?_ _ | refine Fr.set ?_ (by omega) (by first | omega | (simp only [nxt_new, nxt_set]; omega)) _)) (by first | omega | (simp only [go_sem]; omega)) au (by omega) au ⟨.sl .clip [], .sl .clip [], rfl, .inl ⟨.clip, by simp [hwe]⟩, .inl ⟨.clip, by simp [hse]⟩⟩
theorem law_odd {t : Tab} {m : Nat} (hm : m ≤ 1000) (ht : t.few m) {what at_ n : Int} (hwI : I64 what) (haI : I64 at_) (hnI : I64 n) {s : St} : ACalls Try.prog 12 [t.pv, .int .i64 what, .int .i64 at_, .int .i64 n] s (fun r s' => r = (oddF t what at_ n).pv ∧ s' = s) := by
  by_cases h0 : t.tens = []
  · exact odd_nil hm ht hwI haI hnI h0
  · have hl : 0 < t.tens.length := List.length_pos_iff.2 h0
    have hb := withinI_bound (n := at_) (lo := 0) (hi := (t.tens.length : Int) - 1) (by omega)
    obtain ⟨k, hk⟩ : ∃ y : Nat, withinI at_ 0 ((t.tens.length : Int) - 1) = y := ⟨_, (Int.toNat_of_nonneg hb.1).symm⟩
    have hkl : k < t.tens.length := by omega
    by_cases hw : t.tens[k].wins = []
    · by_cases hs : t.tens[k].slts = []
      · exact odd_nn hm ht hwI haI hnI hk hkl rfl hw hs
      · exact odd_ns hm ht hwI haI hnI hk hkl rfl hw hs
    · by_cases hs : t.tens[k].slts = []
      · exact odd_wn hm ht hwI haI hnI hk hkl rfl hw hs
      · exact odd_ws hm ht hwI haI hnI hk hkl rfl hw hs
end Go.Proofs
namespace Go.Proofs
open Go.PM
set_option maxHeartbeats 2000000
attribute [local go_sem] tabSame_self
theorem law_reads {b : List Int} (hb : OkB b) (hl : b.length ≤ 281474976710656) {s : St} : ACalls Try.prog 14 [.sl .unk (b.map (PV.int .u8))] s (fun r s' => r = .bool true ∧ s' = s) := by
  refine go Try.func14 (k := fun hwf H => ?_)
  refine rs (k := rg [0] (k := rs (k := rr (k := ro (pre := [_]) (k := ?_)))))
  refine RunO.callw au au au (by kernel_rfl) ((deed_Read hb hl).mono ?_)
  rintro v s9 ⟨rfl, hs⟩
  subst s9
  rw [read_same]
  refine rh [0, 3, 4] (k := rs (k := rr (k := ro (pre := [_]) (k := rC (h := ref11_Read hb hl) (k := rh [3, 4, 5, 6] (k := rs (k := rr (k := ro (pre := [_, _, _, _]) (k := rQ 20 (ht := fun hg3 => ?_) (hf := fun hg3 => ?_))))))))))
  · refine rg1 (k := rg1 (k := rC (h := ref11_Equal (a := (rRead b).1) (b := (rRead b).1) (rRead_ok hb)) (k := rh [2] (k := rR (k := rP (by simp only [Try.f14, go_sem]; rfl) hwf ⟨?_, rfl⟩)))))
    simp [PV.weak, go_sem]
  · simp at hg3
theorem law_same {t : Tab} (ht : t.ok) {s : St} : ACalls Try.prog 11 [t.pv] s (fun r s' => r = .bool true ∧ s' = s) := by
  refine go Try.func11 (k := fun hwf H => ?_)
  refine rs (k := rg [1] (k := rs (k := rr (k := ro (pre := [_]) (k := rC (h := deed_Bytes ht) (k := rh [1, 3, 4] (k := rs (k := rr (k := ro (pre := [_]) (k := rC (h := ref11_Where ht) (k := rh [1, 3, 4, 5] (k := rs (k := rs (k := ?_))))))))))))))
  obtain ⟨c, hcc⟩ : ∃ c, (tabWhere t).1 = c := ⟨_, rfl⟩
  have H := aj hcc H
  refine rg [1, 3, 5, 19] (k := rc (ht := fun hc0 => ?_) (hf := fun hc0 => ?_))
  · cases hc0
  · refine rk (k := rs (k := rs (k := rg [1, 3, 21] (k := rc (ht := fun hc1 => ?_) (hf := fun hc1 => ?_)))))
    · refine rs (k := ?_)
      have hw1 : ¬ (tabWhere t).1 = 0 := by rw [hcc]; simpa using hc1
      have hif : (if (tabWhere t).1 = 0 then bytesB t else []) = [] := if_neg hw1
      have hcn : (c = 0) = False := eq_false (by rw [← hcc]; exact hw1)
      have H := aj hif (aj hcn H)
      refine rg [2] (k := rR (k := rP (by simp only [Try.f11, go_sem]; rfl) hwf ⟨?_, rfl⟩))
      simp [PV.weak, go_sem]
    · refine rk (k := rs (k := ?_))
      have hw0 : (tabWhere t).1 = 0 := by rw [hcc]; simpa using hc1
      have hc0' : c = 0 := by rw [← hcc, hw0]
      have hif : (if (tabWhere t).1 = 0 then bytesB t else []) = bytesB t := if_pos hw0
      subst hc0'
      have hlen : (bytesB t).length ≤ 281474976710656 := by have := bytesB_len (right_u ht hw0); omega
      have hbe : ((strB (bytesB t)).toList == (strB (bytesB t)).toList) = true := by simp
      have H := aj hif (aj hbe H)
      refine Run.drawC [] [2] Try.mixed (by kernel_rfl) ?_
      refine DetC.pre (pre := [_, _, _]) au ?_
      refine DetC.call au au au (by kernel_rfl) (ref11_Bytes ht hw0) ?_
      refine DetC.pre (pre := [_, _, _]) au ?_
      refine DetC.gdo au au ?_
      refine DetC.call au au au (by kernel_rfl) (law_reads (bytesB_ok t) hlen) ?_
      refine DetC.all au ?_
      refine re (k := rR (k := rP (by simp only [Try.f11, go_sem]; rfl) hwf ⟨?_, rfl⟩))
      simp [PV.weak, go_sem]
attribute [local go_sem] tabSame_self
set_option maxRecDepth 100000 in
theorem law_known {s : St} : ACalls Try.prog 16 [] s (fun r s' => r = .bool true ∧ s' = s) := by
  refine go Try.func16 (k := fun hwf H => ?_)
  have eK : tabWhere (⟨72, [⟨1, 65538, 2, [], [⟨0, 72⟩]⟩]⟩ : Tab) = (0, -1) := by decide
  have e0 : tabWhere ⟨0, []⟩ = (20, -1) := by decide
  have o0 : Tab.ok ⟨0, []⟩ := ⟨by decide, fun x hx => (by cases hx), by decide⟩
  have oK : Tab.ok (⟨72, [⟨1, 65538, 2, [], [⟨0, 72⟩]⟩]⟩ : Tab) := by
    refine ⟨by decide, fun x hx => ?_, by decide⟩
    rw [List.mem_singleton.1 hx]
    exact ⟨by decide, ⟨by decide, by decide⟩, by decide, fun w hw => (by cases hw), fun w hw => by rw [List.mem_singleton.1 hw]; exact ⟨by decide, by decide⟩, by decide, by decide⟩
  have hr : dRead (bytesB (⟨72, [⟨1, 65538, 2, [], [⟨0, 72⟩]⟩]⟩ : Tab)) = ((⟨72, [⟨1, 65538, 2, [], [⟨0, 72⟩]⟩]⟩ : Tab), 0) := by rw [read_same]; exact rRead_bytes (right_u oK (by rw [eK])) (by rw [eK])
  have hn : dRead [] = (tab0, 14) := by rw [read_same]; rfl
  have hm : dRead (List.replicate 1001 0) = (tab0, 3) := by unfold dRead; rw [if_pos (by rw [List.length_replicate]; decide)]
  have h2 : dRead (sealB [66, 71, 50]) = (tab0, 12) := by
    unfold dRead
    rw [if_neg (by rw [sealB_len]; decide), openB_seal]
    rfl
  have hl25 : ((bytesB (⟨72, [⟨1, 65538, 2, [], [⟨0, 72⟩]⟩]⟩ : Tab)).length : Int) = 25 := by rw [bytesB_size]; rfl
  have ht11 : ((bytesB (⟨72, [⟨1, 65538, 2, [], [⟨0, 72⟩]⟩]⟩ : Tab)).map (PV.int .u8)).take 11 = ([66, 71, 49, 0, 72, 0, 1, 0, 1, 0, 1] : List Int).map (PV.int .u8) := by rw [← List.map_take]; rfl
  have h11 : Int.toNat 11 = 11 := rfl
  have h011 : ((0 : Int) ≤ 11) = True := by decide
  have h1125 : ((11 : Int) ≤ 25) = True := by decide
  have hrep : PV.weaks (List.replicate 1001 (.int .u8 0)) = (List.replicate 1001 0).map (PV.int .u8) := by rw [List.map_replicate]; exact weaks_rep _ _
  have hb2 : OkB [66, 71, 50] := by intro y hy; simp only [List.mem_cons, List.not_mem_nil, or_false] at hy; rcases hy with rfl | rfl | rfl <;> decide
  have hbm : OkB (List.replicate 1001 0) := fun y hy => by rw [(List.mem_replicate.1 hy).2]; decide
  obtain ⟨BS, hBS⟩ : ∃ b, (bytesB (⟨72, [⟨1, 65538, 2, [], [⟨0, 72⟩]⟩]⟩ : Tab)) = b := ⟨_, rfl⟩
  rw [hBS] at hr hl25 ht11
  have hBo : OkB BS := by rw [← hBS]; exact bytesB_ok _
  have hBl : BS.length = 25 := by omega
  have hst : ((strB ([66, 71, 49, 0, 72, 0, 1, 0, 1, 0, 1] : List Int)).toList == (ByteArray.mk #[66, 71, 49, 0, 72, 0, 1, 0, 1, 0, 1]).toList) = true := by rw [show (ByteArray.mk #[66, 71, 49, 0, 72, 0, 1, 0, 1, 0, 1]) = strB ([66, 71, 49, 0, 72, 0, 1, 0, 1, 0, 1] : List Int) from rfl]; simp
  obtain ⟨L, hL⟩ : ∃ l : List Int, [66, 71, 49, 0, 72, 0, 1, 0, 1, 0, 1] = l := ⟨_, rfl⟩
  rw [hL] at ht11 hst
  have H := aj hl25 (aj ht11 (aj h11 (aj h011 (aj h1125 (aj hrep (aj hst H))))))
  refine rs (k := rg [] (k := rs (k := rr (k := ro (pre := [_]) (k := rO (k := ro (pre := [_]) (k := rO (k := rh [1] (k := rs (k := rr (k := ro (pre := [_]) (k := ?_))))))))))))
  refine RunO.callw au au au (by kernel_rfl) ((deed_Bytes (t := (⟨72, [⟨1, 65538, 2, [], [⟨0, 72⟩]⟩]⟩ : Tab)) oK).mono ?_)
  rintro r s9 ⟨rfl, hs⟩
  subst s9
  rw [eK, if_pos rfl, hBS]
  refine rh [1, 2, 3] (k := rs (k := rr (k := ro (pre := [_]) (k := ?_))))
  refine RunO.callw au au au (by kernel_rfl) ((deed_Read (bs := BS) hBo (by omega)).mono ?_)
  rintro r s9 ⟨rfl, hs⟩
  subst s9
  rw [hr]
  refine rh [1, 2, 3, 4, 5] (k := rs (k := rr (k := ?_)))
  refine RunO.callw au au au (by kernel_rfl) ((deed_Read (bs := []) (fun y hy => by cases hy) (by decide)).mono ?_)
  rintro r s9 ⟨rfl, hs⟩
  subst s9
  rw [hn]
  refine rh [1, 2, 3, 4, 5, 7] (k := rs (k := rr (k := ro (pre := [_]) (k := ?_))))
  refine RunO.callw au au au (by kernel_rfl) ((deed_Bytes (t := ⟨0, []⟩) o0).mono ?_)
  rintro r s9 ⟨rfl, hs⟩
  subst s9
  rw [e0, if_neg (by decide)]
  refine rh [1, 2, 3, 4, 5, 7, 9] (k := rs (k := rr (k := ?_)))
  refine RunO.makeSlice (n := 1001) au au au Try.td33 Try.zp5 (by decide) (by decide) (by rw [Try.by5]; decide) ?_
  refine RunO.callw au au au (by kernel_rfl) ((deed_Read (bs := List.replicate 1001 0) hbm (by rw [List.length_replicate]; decide)).mono ?_)
  rintro r s9 ⟨rfl, hs⟩
  subst s9
  rw [hm]
  refine rh [1, 2, 3, 4, 5, 7, 9, 11] (k := rs (k := rr (k := ?_)))
  refine RunO.litTok au au Try.td33 ?_
  refine RunO.convTok au Try.td33 Try.td5 au (fun _ => by simp (disch := omega) only [go_sem, Try.cz5] <;> rfl) ?_
  refine rC (h := ref1_Seal (l := [66, 71, 50]) hb2 (by decide)) (k := ?_)
  refine RunO.callw au au au (by kernel_rfl) ((deed_Read (bs := sealB [66, 71, 50]) (sealB_ok hb2) (by rw [sealB_len]; decide)).mono ?_)
  rintro r s9 ⟨rfl, hs⟩
  subst s9
  rw [h2]
  refine rh [1, 2, 3, 4, 5, 7, 9, 11, 13] (k := rs (k := rr (k := ro (pre := [_, _, _, _, _, _, _, _, _, _, _, _, _, _, _, _, _, _]) (k := rQ 67 (ht := fun hg17 => ?_) (hf := fun hg17 => ?_)))))
  · refine rg1 (k := rg1 (k := rC (h := ref11_Equal (a := (⟨72, [⟨1, 65538, 2, [], [⟨0, 72⟩]⟩]⟩ : Tab)) (b := (⟨72, [⟨1, 65538, 2, [], [⟨0, 72⟩]⟩]⟩ : Tab)) oK) (k := rh [0] (k := rR (k := rP (by simp only [Try.f16, go_sem]; rfl) hwf ⟨?_, rfl⟩)))))
    simp [PV.weak, go_sem]
  · first | cases hg17 | simp at hg17
end Go.Proofs
namespace Go.Proofs
open Go.PM
set_option maxHeartbeats 2000000
set_option maxRecDepth 100000 in
theorem law_Sizes {l : List Int} (hl : l.length * 8 ≤ 140737488351232) {s : St} : ACalls Try.prog 6 [.sl .unk (l.map (PV.int .i64))] s (fun r s' => r = .bool true ∧ s' = s) := by
  refine go Try.func6 (k := fun hwf H => ?_)
  refine rs (k := rg [0] (k := rs (k := rr (k := ro (pre := [_, _, _]) (k := ?_)))))
  refine RunO.callw au au au (by kernel_rfl) ((tape_Table (T := ⟨l, 0⟩) ⟨hl, by simp only; omega⟩ (tp := s.nxt) (by simp (disch := omega) only [go_sem, ↓reduceIte] <;> rfl)).mono ?_)
  rintro r s9 ⟨t, T2, rfl, hs, hT2, hRt, hfwt⟩
  subst s9
  have hwt : (tabWhere t).1 = 0 := by simpa [tabRight] using hRt
  have hUt := right_u hfwt.ok hwt
  have hLt := bytesB_len hUt
  refine rh [3] (k := rs (k := rr (k := ro (pre := [_]) (k := ?_))))
  refine RunO.callw au au au (by kernel_rfl) ((deed_Bytes hfwt.ok).mono ?_)
  rintro r s9 ⟨rfl, hs⟩
  subst s9
  rw [if_pos hwt, hwt]
  refine rh [3, 4, 5] (k := rs (k := rg [3, 4, 5, 6] (k := rs (k := rs (k := rg [4, 5, 6, 19, 20, 21] (k := rb (k := ?_)))))))
  refine Run.loop (fun e s' => Fr s s' ∧ ∃ (i : Nat) (n : Int), e = [(4, .sl .unk ((bytesB t).map (PV.int .u8))), (5, .int .i64 0), (6, .int .i64 n), (19, .sl .unk (t.tens.map Ten.pv)), (20, .int .i64 t.tens.length), (21, .int .i64 (i : Int))] ∧ i ≤ t.tens.length ∧ 0 ≤ n ∧ n ≤ 9 + 72 * i ∧ n = ((9 + ((t.tens.take i).map fun x : Ten => 12 + 8 * x.wins.length + 4 * x.slts.length).sum : Nat) : Int)) (fun e s' => t.tens.length - ivar e 21) ?_ ?_
  · refine ⟨?_, 0, 9, rfl, Nat.zero_le _, by omega, by omega, by simp⟩
    repeat (first | exact Fr.refl hwf | refine Fr.new ?_ _ | refine Fr.set ?_ (by omega) (by simp only [nxt_new, nxt_set]; omega) _)
  rintro e s1 ⟨F1, i, n, rfl, hi, hn0, hn9, hn⟩
  refine rs (k := rg [4, 5, 6, 19, 20, 21, 22] (k := rs (k := rc (ht := fun hc0 => ?_) (hf := fun hc0 => ?_))))
  · refine rk (k := rs (k := rb (k := rs (k := ?_))))
    have hil : i < t.tens.length := by have := of_decide_eq_true hc0; omega
    obtain ⟨x, hxe⟩ : ∃ z_, t.tens[i]'hil = z_ := ⟨_, rfl⟩
    have hxx : (t.tens.map Ten.pv)[i]? = some (.agg [.int .i64 (x).unit, .int .u32 (x).fns, .int .i64 (x).queue, .sl .unk ((x).wins.map Win.pv), .sl .unk ((x).slts.map Slt.pv)]) := by rw [map_get hil, hxe]; rfl
    have hn4 := hUt.n
    have hw : IntKind.i64.wrap ((i : Int) + 1) = ((i + 1 : Nat) : Int) := by rw [wrap_i64 (by omega)]; omega
    have hxu := hUt.tens x (by rw [← hxe]; exact List.getElem_mem _)
    have hnw := hxu.nw
    have hns := hxu.ns
    have hn4 := hUt.n
    have h1 : IntKind.i64.wrap (n + 12) = n + 12 := wrap_i64 (by omega)
    have h2 : IntKind.i64.wrap (8 * (x.wins.length : Int)) = 8 * x.wins.length := wrap_i64 (by omega)
    have h3 : IntKind.i64.wrap (n + 12 + 8 * (x.wins.length : Int)) = n + 12 + 8 * x.wins.length := wrap_i64 (by omega)
    have h4 : IntKind.i64.wrap (4 * (x.slts.length : Int)) = 4 * x.slts.length := wrap_i64 (by omega)
    have h5 : IntKind.i64.wrap (n + 12 + 8 * (x.wins.length : Int) + 4 * (x.slts.length : Int)) = n + 12 + 8 * x.wins.length + 4 * x.slts.length := wrap_i64 (by omega)
    have H := aj hxx (aj hw (aj h1 (aj h2 (aj h3 (aj h4 (aj h5 H))))))
    refine rg [4, 5, 6, 8, 19, 20, 21] (k := rg [4, 5, 6, 19, 20, 21] (k := rB (k := rg [4, 5, 6, 19, 20, 21] (k := ?_))))
    refine Run.lp ⟨⟨F1.new _, i + 1, _, rfl, by omega, by omega, by omega, ?_⟩, ?_⟩
    · rw [take_get hil, hxe, List.map_append, List.sum_append, hn]; simp; omega
    · simp (disch := omega) only [ivar, go_sem, ↓reduceIte, Nat.reduceEqDiff]
      omega
  · refine rX (k := rs (k := ?_))
    have hie : i = t.tens.length := by have := of_decide_eq_false hc0; omega
    rw [hie, List.take_length] at hn
    have hlen : ((bytesB t).length : Int) = n := by rw [bytesB_size, hn] <;> omega
    have hn1000 : (n ≤ 1000) = True := eq_true (by omega)
    have H := aj hlen (aj hn1000 H)
    refine rr (k := ro (pre := [_, _, _, _, _, _, _, _, _, _, _, _, _, _]) (k := rQ 51 (ht := fun hg13 => ?_) (hf := fun hg13 => ?_)))
    · refine rC (h := law_known) (k := rh [2] (k := rR (k := ?_)))
      refine Ret.pure (by simp only [Try.f6, go_sem] <;> rfl) rfl (by simp only [go_sem, reduceCtorEq, false_implies, implies_true]) hwf (by first | exact (F1).blk) ⟨?_, rfl⟩
      · rfl
    · first | cases hg13 | simp at hg13
set_option maxRecDepth 100000 in
theorem law_Apart {l m : List Int} (hl : l.length * 8 ≤ 140737488351232) (hm : m.length * 8 ≤ 140737488351232) {s : St} : ACalls Try.prog 7 [.sl .unk (l.map (PV.int .i64)), .sl .unk (m.map (PV.int .i64))] s (fun r s' => r = .bool true ∧ s' = s) := by
  refine go Try.func7 (k := fun hwf H => ?_)
  refine rs (k := rg [0, 1] (k := rs (k := rr (k := ro (pre := [_, _, _]) (k := ?_)))))
  refine RunO.callw au au au (by kernel_rfl) ((tape_Table (T := ⟨l, 0⟩) ⟨hl, by simp only; omega⟩ (tp := s.nxt) (by simp (disch := omega) only [go_sem, ↓reduceIte] <;> rfl)).mono ?_)
  rintro r s9 ⟨t, T2, rfl, hs, hT2, hRt, hfwt⟩
  subst s9
  have hwt : (tabWhere t).1 = 0 := by simpa [tabRight] using hRt
  have hUt := right_u hfwt.ok hwt
  have hLt := bytesB_len hUt
  refine ro (pre := [_, _, _]) (k := ?_)
  refine RunO.callw au au au (by kernel_rfl) ((tape_Table (T := ⟨m, 0⟩) ⟨hm, by simp only; omega⟩ (tp := s.nxt + 1) (by simp (disch := omega) only [go_sem, ↓reduceIte] <;> rfl)).mono ?_)
  rintro r s9 ⟨u, T2, rfl, hs, hT2, hRu, hfwu⟩
  subst s9
  have hwu : (tabWhere u).1 = 0 := by simpa [tabRight] using hRu
  have hUu := right_u hfwu.ok hwu
  have hLu := bytesB_len hUu
  refine rh [5, 6] (k := rs (k := rr (k := ro (pre := [_]) (k := ?_))))
  refine RunO.callw au au au (by kernel_rfl) ((deed_Bytes hfwt.ok).mono ?_)
  rintro r s9 ⟨rfl, hs⟩
  subst s9
  rw [if_pos hwt, hwt]
  refine rh [5, 6, 7, 8] (k := rs (k := rr (k := ro (pre := [_]) (k := ?_))))
  refine RunO.callw au au au (by kernel_rfl) ((deed_Bytes hfwu.ok).mono ?_)
  rintro r s9 ⟨rfl, hs⟩
  subst s9
  rw [if_pos hwu, hwu]
  refine rh [5, 6, 7, 8, 9, 10] (k := rs (k := ?_))
  have hap : (((strB (bytesB t)).toList == (strB (bytesB u)).toList) == tabSame t u) = true := by
    rw [strB_beq (bytesB_ok t) (bytesB_ok u)]
    by_cases h : t = u
    · subst h; simp [tabSame]
    · have : ¬ bytesB t = bytesB u := fun e => h (bytesB_inj hUt hUu hwt hwu e)
      simp [tabSame, h, this]
  have H := aj hap H
  refine Run.drawC [] [4] Try.mixed (by kernel_rfl) ?_
  refine DetC.pre (pre := [_, _, _]) au ?_
  refine DetC.gdo au au ?_
  refine DetC.gdo au au ?_
  refine DetC.pre (pre := [_, _]) au ?_
  refine DetC.gdo au au ?_
  refine DetC.gdo au au ?_
  refine DetC.gdo au au ?_
  refine DetC.gdo au au ?_
  refine DetC.gdo au au ?_
  refine DetC.gdo au au ?_
  refine DetC.gdo au au ?_
  refine DetC.call au au au (by kernel_rfl) (ref11_Equal (a := t) (b := u) hfwt.ok) ?_
  refine DetC.gdo au au ?_
  refine DetC.pre (pre := [_, _]) au ?_
  refine DetC.call au au au (by kernel_rfl) (law_known) ?_
  refine DetC.all au ?_
  refine re (k := rR (k := rP (by simp only [Try.f7, go_sem]; rfl) hwf ⟨?_, rfl⟩))
  simp [PV.weak, go_sem]
end Go.Proofs
namespace Go.Proofs
open Go.PM
set_option maxHeartbeats 2000000
attribute [local go_sem] tabSame_self
set_option maxRecDepth 100000 in
theorem law_Back {l : List Int} (hl : l.length * 8 ≤ 140737488351232) {at_ turn : Int} (hat : I64 at_) (htu : U8 turn) {s : St} : ACalls Try.prog 5 [.sl .unk (l.map (PV.int .i64)), .int .i64 at_, .int .u8 turn] s (fun r s' => r = .bool true ∧ s' = s) := by
  refine go Try.func5 (k := fun hwf H => ?_)
  refine rs (k := rg [0, 1, 2] (k := rs (k := rr (k := ro (pre := [_, _, _]) (k := ?_)))))
  refine RunO.callw au au au (by kernel_rfl) ((tape_Table (T := ⟨l, 0⟩) ⟨hl, by simp only; omega⟩ (tp := s.nxt) (by simp (disch := omega) only [go_sem, ↓reduceIte] <;> rfl)).mono ?_)
  rintro r s9 ⟨t, T2, rfl, hs, hT2, hRt, hfwt⟩
  subst s9
  have hwt : (tabWhere t).1 = 0 := by simpa [tabRight] using hRt
  have hUt := right_u hfwt.ok hwt
  have hLt := bytesB_len hUt
  refine rh [1, 2, 7] (k := rs (k := rr (k := ro (pre := [_]) (k := ?_))))
  refine RunO.callw au au au (by kernel_rfl) ((deed_Bytes hfwt.ok).mono ?_)
  rintro r s9 ⟨rfl, hs⟩
  subst s9
  rw [if_pos hwt, hwt]
  refine rh [1, 2, 7, 8, 9] (k := rs (k := rr (k := ro (pre := [_]) (k := ?_))))
  refine RunO.callw au au au (by kernel_rfl) ((deed_Read (bs := bytesB t) (bytesB_ok t) (by omega)).mono ?_)
  rintro r s9 ⟨rfl, hs⟩
  subst s9
  rw [read_same, rRead_bytes hUt hwt]
  refine rh [1, 2, 7, 8, 9, 10, 11] (k := rs (k := rr (k := ro (pre := [_]) (k := ?_))))
  refine RunO.callw au au au (by kernel_rfl) ((deed_Bytes hfwt.ok).mono ?_)
  rintro r s9 ⟨rfl, hs⟩
  subst s9
  rw [if_pos hwt, hwt]
  refine rh [1, 2, 7, 8, 9, 10, 11, 12, 13] (k := rs (k := rs (k := ?_)))
  have hB9 : 9 ≤ (bytesB t).length := by rw [bytesB_size]; omega
  have hbl0 : (((bytesB t).length : Int) = 0) = False := eq_false (by omega)
  have hbe : ((strB (bytesB t)).toList == (strB (bytesB t)).toList) = true := by simp
  have H := aj hbl0 (aj hbe H)
  refine rr (k := ro (pre := [_, _, _, _, _, _, _, _, _, _, _]) (k := rQ 47 (ht := fun hg10 => ?_) (hf := fun hg10 => ?_)))
  · first | cases hg10 | simp at hg10
  · refine rg1 (k := rg1 (k := rC (h := ref11_Equal (a := t) (b := t) hfwt.ok) (k := rg1 (k := rh [1, 2, 8, 64] (k := rc (ht := fun hc0 => ?_) (hf := fun hc0 => ?_))))))
    · cases hc0
    · refine rk (k := rs (k := ?_))
      have hw1 : IntKind.i64.wrap (((bytesB t).length : Int) - 1) = (bytesB t).length - 1 := wrap_i64 (by omega)
      have hkb := withinI_bound (n := at_) (lo := 0) (hi := (bytesB t).length - 1) (by omega)
      obtain ⟨k, hk⟩ : ∃ k : Nat, withinI at_ 0 ((bytesB t).length - 1) = k := ⟨_, (Int.toNat_of_nonneg hkb.1).symm⟩
      have hkl : k < (bytesB t).length := by omega
      have hbne : bytesB t ≠ [] := fun h => by rw [h] at hB9; simp at hB9
      have H := aj hw1 (aj hk H)
      refine rr (k := ro (pre := [_, _, _, _]) (k := rC (h := within_ (lo := 0) (hi := (bytesB t).length - 1) (by decide) (by omega) (by omega)) (k := rh [2, 8, 14] (k := rs (k := rr (k := rO (k := ro (pre := [_]) (k := ?_))))))))
      refine RunO.appendFirst au au au Try.td33 (by rw [Try.zp5]; rfl) (by intro el hel; cases hel) (isEls_map (P := Try.prog) (e := 5) (f := PV.int .u8) (fun a => ⟨rfl, by rw [Try.cz5]; rfl⟩) _) (by rw [Try.by5]; decide) (by rw [Try.by5]; simp; omega) (by simp only [aAppendFirst, List.map_eq_nil_iff, ne_eq, hbne, not_false_eq_true, if_true, List.length_nil, Nat.zero_add, List.length_map, List.nil_append, go_sem]; rfl) ?_
      refine rh [2, 14, 15] (k := rs (k := ?_))
      obtain ⟨v, hv⟩ : ∃ v, (bytesB t)[k] = v := ⟨_, rfl⟩
      have hxx : ((bytesB t).map (PV.int .u8))[k]? = some (.int .u8 v) := by rw [map_get hkl, hv]
      have hklt : ((k : Int) < ((bytesB t).length : Int)) = True := eq_true (by omega)
      obtain ⟨X, hX⟩ : ∃ X, ibits .xor .u8 v turn = X := ⟨_, rfl⟩
      obtain ⟨Z, hZ⟩ : ∃ Z, (bytesB t).set k X = Z := ⟨_, rfl⟩
      have hset : ((bytesB t).map (PV.int .u8)).set k (.int .u8 X) = Z.map (PV.int .u8) := by rw [← hZ]; exact List.map_set.symm
      have hset2 : ((bytesB t).set k X) = Z := hZ
      have hZl : Z.length = (bytesB t).length := by rw [← hZ, List.length_set]
      have hZo : OkB Z := fun y hy => by rw [← hZ] at hy; rcases List.mem_or_eq_of_mem_set hy with h | h; exact bytesB_ok t y h; rw [h, ← hX]; exact ibits_u8 _ _ _
      have hdz : dRead Z = if turn = 0 then (t, 0) else (tab0, 14) := by rw [← hZ, ← hX, ← hv]; exact read_turned hUt hwt hkl htu
      have H := aj hxx (aj hklt (aj hX (aj hset H)))
      refine rg [2, 15] (k := rs (k := rr (k := ro (pre := [_]) (k := ?_))))
      refine RunO.thaw 81 (s.nxt + 1 + 1 + 1) 2 (v := .sl .unk (Z.map (PV.int .u8))) (by simp (disch := omega) only [go_sem, ↓reduceIte]; exact frz_own_ints (by rw [hZl]) (by simp) (by simp (disch := omega) only [go_sem, hset, hset2, ↓reduceIte, H] <;> rfl)) (by simp only [PV.blw, blws_u8T]; exact ⟨fun t z e => (by cases e), trivial⟩) ?_
      refine RunO.callw au au au (by kernel_rfl) ((deed_Read (bs := Z) hZo (by rw [hZl]; omega)).mono ?_)
      rintro r s9 ⟨rfl, hs⟩
      subst s9
      rw [hdz]
      refine rh [2, 17] (k := rs (k := ?_))
      obtain ⟨cz, hcz⟩ : ∃ c : Int, (if turn = 0 then (t, (0 : Int)) else (tab0, 14)).2 = c := ⟨_, rfl⟩
      have hq1 : decide (cz = 0) = decide (turn = 0) := by rw [← hcz]; by_cases h : turn = 0 <;> simp [h]
      have hq2 : (decide (turn = 0) || decide (cz = 14)) = true := by rw [← hcz]; by_cases h : turn = 0 <;> simp [h]
      rw [hcz]
      have H := aj hq1 H
      refine rr (k := ro (pre := [_, _, _, _, _, _]) (k := rQ 90 (ht := fun hg5 => ?_) (hf := fun hg5 => ?_)))
      · refine rg1 (k := rg1 (k := rg1 (k := ro (pre := [_, _]) (k := rg1 (k := ro (pre := [_, _]) (k := rQ 98 (ht := fun hg13 => ?_) (hf := fun hg13 => ?_)))))))
        · refine rC (h := law_known) (k := rh [6] (k := rR (k := rP (by simp only [Try.f5, go_sem]; rfl) hwf ⟨?_, rfl⟩)))
          simp [PV.weak, go_sem]
        · first | (rw [hq2] at hg13; cases hg13) | (revert hg13 hq2; cases decide (turn = 0) <;> cases decide (cz = 14) <;> simp)
      · first | cases hg5 | simp at hg5
end Go.Proofs
namespace Go.Proofs
open Go.PM
set_option maxHeartbeats 2000000
attribute [local go_sem] tabSame_self
set_option maxRecDepth 100000 in
theorem law_Tells {l : List Int} (hl : l.length * 8 ≤ 140737488351232) {what at_ n : Int} (hw : I64 what) (hat : I64 at_) (hn : I64 n) {raw : Tab} (hraw : raw.ok) {b : List Int} (hb : OkB b) (hbl : b.length ≤ 140737488351232) {turn : Int} (htu : U8 turn) {s : St} : ACalls Try.prog 4 [.sl .unk (l.map (PV.int .i64)), .int .i64 what, .int .i64 at_, .int .i64 n, raw.pv, .sl .unk (b.map (PV.int .u8)), .int .u8 turn] s (fun r s' => r = .bool true ∧ s' = s) := by
  refine go Try.func4 (k := fun hwf H => ?_)
  refine rs (k := rg [0, 1, 2, 3, 5, 6, 11] (k := rs (k := rr (k := ro (pre := [_, _, _]) (k := ?_)))))
  refine RunO.callw au au au (by kernel_rfl) ((tape_Table (T := ⟨l, 0⟩) ⟨hl, by simp only; omega⟩ (tp := s.nxt + 1) (by simp (disch := omega) only [go_sem, ↓reduceIte] <;> rfl)).mono ?_)
  rintro r s9 ⟨t, T2, rfl, hs, hT2, hRt, hfwt⟩
  subst s9
  have hwt : (tabWhere t).1 = 0 := by simpa [tabRight] using hRt
  have hUt := right_u hfwt.ok hwt
  have hLt := bytesB_len hUt
  refine rh [1, 2, 3, 5, 6, 11, 15] (k := rs (k := rr (k := ro (pre := [_]) (k := rC (h := ref11_Bytes hfwt.ok hwt) (k := rh [1, 2, 3, 5, 6, 11, 15, 16] (k := rs (k := ?_)))))))
  have hB9 : 9 ≤ (bytesB t).length := by rw [bytesB_size]; omega
  have hw1 : IntKind.i64.wrap (((bytesB t).length : Int) - 1) = (bytesB t).length - 1 := wrap_i64 (by omega)
  have hkb := withinI_bound (n := at_) (lo := 0) (hi := (bytesB t).length - 1) (by omega)
  obtain ⟨k, hk⟩ : ∃ k : Nat, withinI at_ 0 ((bytesB t).length - 1) = k := ⟨_, (Int.toNat_of_nonneg hkb.1).symm⟩
  have hkl : k < (bytesB t).length := by omega
  have hbne : bytesB t ≠ [] := fun h => by rw [h] at hB9; simp at hB9
  have H := aj hw1 (aj hk H)
  refine rr (k := ro (pre := [_, _, _, _]) (k := rC (h := within_ (lo := 0) (hi := (bytesB t).length - 1) (by decide) (by omega) (by omega)) (k := rh [1, 2, 3, 5, 6, 11, 15, 16, 17] (k := rs (k := rr (k := rO (k := ro (pre := [_]) (k := ?_))))))))
  refine RunO.appendFirst au au au Try.td33 (by rw [Try.zp5]; rfl) (by intro el hel; cases hel) (isEls_map (P := Try.prog) (e := 5) (f := PV.int .u8) (fun a => ⟨rfl, by rw [Try.cz5]; rfl⟩) _) (by rw [Try.by5]; decide) (by rw [Try.by5]; simp; omega) (by simp only [aAppendFirst, List.map_eq_nil_iff, ne_eq, hbne, not_false_eq_true, if_true, List.length_nil, Nat.zero_add, List.length_map, List.nil_append, go_sem]; rfl) ?_
  refine rh [1, 2, 3, 5, 6, 11, 15, 16, 17, 18] (k := rs (k := ?_))
  obtain ⟨v, hv⟩ : ∃ v, (bytesB t)[k] = v := ⟨_, rfl⟩
  have hxx : ((bytesB t).map (PV.int .u8))[k]? = some (.int .u8 v) := by rw [map_get hkl, hv]
  have hklt : ((k : Int) < ((bytesB t).length : Int)) = True := eq_true (by omega)
  obtain ⟨X, hX⟩ : ∃ X, ibits .xor .u8 v turn = X := ⟨_, rfl⟩
  obtain ⟨Z, hZ⟩ : ∃ Z, (bytesB t).set k X = Z := ⟨_, rfl⟩
  have hset : ((bytesB t).map (PV.int .u8)).set k (.int .u8 X) = Z.map (PV.int .u8) := by rw [← hZ]; exact List.map_set.symm
  have hset2 : ((bytesB t).set k X) = Z := hZ
  have hZl : Z.length = (bytesB t).length := by rw [← hZ, List.length_set]
  have hZo : OkB Z := fun y hy => by rw [← hZ] at hy; rcases List.mem_or_eq_of_mem_set hy with h | h; exact bytesB_ok t y h; rw [h, ← hX]; exact ibits_u8 _ _ _
  have H := aj hxx (aj hklt (aj hX (aj hset H)))
  refine rg [1, 2, 3, 5, 11, 15, 16, 17, 18] (k := rs (k := ?_))
  have hZw : IntKind.i64.wrap ((Z.length : Int) - 2) = (Z.length : Int) - 2 := wrap_i64 (by omega)
  have hZn : ((Z.length : Int) - 2).toNat = Z.length - 2 := by omega
  have hZ0 : (0 ≤ (Z.length : Int) - 2) = True := eq_true (by omega)
  have hZ1 : ((Z.length : Int) - 2 ≤ Z.length) = True := eq_true (by omega)
  have hZt : (Z.map (PV.int .u8)).take (Z.length - 2) = (Z.take (Z.length - 2)).map (PV.int .u8) := List.map_take.symm
  have hkle : ((k : Int) ≤ ((bytesB t).length : Int)) = True := eq_true (by omega)
  have hkt : ((bytesB t).map (PV.int .u8)).take k = ((bytesB t).take k).map (PV.int .u8) := List.map_take.symm
  have H := aj hZw (aj hZn (aj hZ0 (aj hZ1 (aj hZt (aj hkle (aj hkt H))))))
  refine rrA [some 40, some 41, some 42, some 43, some 44, some 45, some 46, some 47, some 48, some 49, some 50, some 51, some 52, some 53, some 54, some 55, some 56, some 57, some 58, some 59, some 60, some 61, some 62, some 63, some 64, some 65, some 66, some 67, some 68, some 69, some 70, some 71, some 72, some 73, some 74, some 75, some 76, some 77, some 78, some 79, some 80, some 81, some 82, some 83, some 84, some 85, some 86, some 87, some 88, some 89, some 90, some 91, some 92, some 93, some 94, some 95, some 96, some 97, some 98, some 99, some 100, some 101, some 102, some 103, some 14] (k := fun ops hops => ?_)
  have H := aj hops H
  refine RunO.thaw 18 (s.nxt + 1 + 1 + 1) 2 (v := .sl .unk (Z.map (PV.int .u8))) (by simp (disch := omega) only [go_sem, ↓reduceIte]; exact frz_own_ints (by rw [hZl]) (by simp) (by simp (disch := omega) only [go_sem, hset, hset2, ↓reduceIte, H] <;> rfl)) (by simp only [PV.blw, blws_u8T]; exact ⟨fun t z e => (by cases e), trivial⟩) ?_
  refine ro (pre := [_]) (k := rC (h := law_same hfwt.ok) (k := ro (pre := [_]) (k := rQ 42 (ht := fun hg2 => ?_) (hf := fun hg2 => ?_))))
  · refine rg1 (k := rg1 (k := rg1 (k := rg1 (k := rC (h := law_odd (m := 6) (by decide) hfwt hw hat hn) (k := rC (h := law_same (oddF_few (m := 6) (by decide) hfwt hn).ok) (k := ro (pre := [_, _]) (k := rQ 50 (ht := fun hg10 => ?_) (hf := fun hg10 => ?_))))))))
    · refine rg1 (k := rg1 (k := rg1 (k := rg1 (k := rg1 (k := rg1 (k := rC (h := law_odd (m := 6) (by decide) hfwt hw (show I64 (ibits .and .i64 at_ 31) from (by have h : 0 ≤ ibits .and .i64 at_ 31 ∧ ibits .and .i64 at_ 31 ≤ 31 := ibits_and_le at_ 31 (by decide); unfold I64; omega)) (show I64 (ibits .and .i64 n 255) from (by have h : 0 ≤ ibits .and .i64 n 255 ∧ ibits .and .i64 n 255 ≤ 255 := ibits_and_le n 255 (by decide); unfold I64; omega))) (k := ?_)))))))
      refine rC (h := law_same (oddF_few (m := 6) (what := what) (at_ := ibits .and .i64 at_ 31) (by decide) hfwt (show I64 (ibits .and .i64 n 255) from (by have h : 0 ≤ ibits .and .i64 n 255 ∧ ibits .and .i64 n 255 ≤ 255 := ibits_and_le n 255 (by decide); unfold I64; omega))).ok) (k := ro (pre := [_, _]) (k := rQ 60 (ht := fun hg20 => ?_) (hf := fun hg20 => ?_)))
      · refine rg1 (k := ?_)
        refine RunO.callw au au au (by kernel_rfl) ((law_few hraw).mono ?_)
        rintro r s9 ⟨t2, rfl, hfe, hs⟩
        subst s9
        refine rC (h := law_same hfe.ok) (k := ro (pre := [_, _]) (k := rQ 65 (ht := fun hg25 => ?_) (hf := fun hg25 => ?_)))
        · refine rg1 (k := rC (h := law_reads hZo (by omega)) (k := ro (pre := [_, _]) (k := rQ 69 (ht := fun hg29 => ?_) (hf := fun hg29 => ?_))))
          · refine rg1 (k := rg1 (k := rg1 (k := rg1 (k := rg1 (k := rC (h := ref1_Seal (hZo.take (Z.length - 2)) (by simp; omega)) (k := rC (h := law_reads (sealB_ok (hZo.take (Z.length - 2))) (by rw [sealB_len]; simp; omega)) (k := ro (pre := [_, _]) (k := rQ 78 (ht := fun hg38 => ?_) (hf := fun hg38 => ?_)))))))))
            · refine rg1 (k := rg1 (k := rg1 (k := rC (h := law_reads ((bytesB_ok t).take k) (by simp; omega)) (k := ro (pre := [_, _]) (k := rQ 84 (ht := fun hg44 => ?_) (hf := fun hg44 => ?_))))))
              · refine rg1 (k := rC (h := law_reads hb (by omega)) (k := ro (pre := [_, _]) (k := rQ 88 (ht := fun hg48 => ?_) (hf := fun hg48 => ?_))))
                · refine rg1 (k := rC (h := ref1_Seal hb (by omega)) (k := rC (h := law_reads (sealB_ok hb) (by rw [sealB_len]; omega)) (k := ro (pre := [_, _]) (k := rQ 93 (ht := fun hg53 => ?_) (hf := fun hg53 => ?_)))))
                  · refine RunO.litTok au au Try.td33 ?_
                    refine RunO.convTok au Try.td33 Try.td5 au (fun _ => by simp (disch := first | omega | (simp only [nxt_set, nxt_new] <;> omega) | fail) only [go_sem, Try.cz5] <;> rfl) ?_
                    refine rg1 (k := ?_)
                    refine RunO.grow' au au au Try.td33 (by rw [Try.zp5]; rfl) (isEls_map (P := Try.prog) (e := 5) (f := PV.int .u8) (fun a => ⟨rfl, by rw [Try.cz5]; rfl⟩) [66, 71, 49]) (isEls_map (P := Try.prog) (e := 5) (f := PV.int .u8) (fun a => ⟨rfl, by rw [Try.cz5]; rfl⟩) _) (by rw [Try.by5]; decide) (by rw [Try.by5]; simp; omega) (.inr (.inr ⟨_, by rw [Try.cz5], by simp (disch := first | omega | (simp only [nxt_set, nxt_new] <;> omega) | fail) only [go_sem] <;> rfl⟩)) ?_
                    intro k2 s2 hgr htm
                    refine rC (h := ref1_Seal (l := markB ++ b) (markB_ok.append hb) (by simp [markB]; omega)) (k := rC (h := law_reads (sealB_ok (markB_ok.append hb)) (by rw [sealB_len]; simp [markB]; omega)) (k := ro (pre := [_, _]) (k := rQ 101 (ht := fun hg61 => ?_) (hf := fun hg61 => ?_))))
                    · refine rC (h := law_known) (k := rh [14] (k := rR (k := ?_)))
                      refine Ret.pure (by simp only [Try.f4, go_sem] <;> rfl) rfl (by simp only [go_sem, reduceCtorEq, false_implies, implies_true]) hwf (by first | exact ((Fr.tm (by repeat (first | exact Fr.refl hwf | refine Fr.new ?_ _ | refine Fr.set ?_ (by first | omega | (simp only [nxt_new, nxt_set]; omega)) (by simp only [nxt_new, nxt_set]; omega) _)) htm (fun t z e => by cases e; first | omega | (simp only [nxt_new, nxt_set]; omega)))).blk) ⟨?_, rfl⟩
                      · rfl
                    · cases hg61
                  · cases hg53
                · cases hg48
              · cases hg44
            · cases hg38
          · cases hg29
        · cases hg25
      · cases hg20
    · cases hg10
  · cases hg2
end Go.Proofs
namespace Go.Proofs
open Go.PM
set_option maxHeartbeats 2000000
theorem bytesB_min {t : Tab} (ht : t.ok) (h : (tabWhere t).1 = 0) : 21 ≤ (bytesB t).length := by
  rw [bytesB_size]
  obtain ⟨_, hn, _⟩ := tabWhere_few h
  cases ht : t.tens with
  | nil => rw [ht] at hn; simp at hn
  | cons x l => simp only [List.map_cons, List.sum_cons]; omega
set_option maxRecDepth 100000 in
theorem law_Cuts {l : List Int} (hl : l.length * 8 ≤ 140737488351232) {at_ : Int} {more : List Int} (hmo : OkB more) (hml : more.length ≤ 140737488351232) {s : St} : ACalls Try.prog 8 [.sl .unk (l.map (PV.int .i64)), .int .i64 at_, .sl .unk (more.map (PV.int .u8))] s (fun r s' => r = .bool true ∧ s' = s) := by
  refine go Try.func8 (k := fun hwf H => ?_)
  refine rs (k := rg [0, 1, 2] (k := rs (k := rr (k := ro (pre := [_, _, _]) (k := ?_)))))
  refine RunO.callw au au au (by kernel_rfl) ((tape_Table (T := ⟨l, 0⟩) ⟨hl, by simp only; omega⟩ (tp := s.nxt) (by simp (disch := omega) only [go_sem, ↓reduceIte] <;> rfl)).mono ?_)
  rintro r s9 ⟨t, T2, rfl, hs, hT2, hRt, hfwt⟩
  subst s9
  have hwt : (tabWhere t).1 = 0 := by simpa [tabRight] using hRt
  have hUt := right_u hfwt.ok hwt
  have hLt := bytesB_len hUt
  refine RunO.callw au au au (by kernel_rfl) ((deed_Bytes hfwt.ok).mono ?_)
  rintro r s9 ⟨rfl, hs⟩
  subst s9
  rw [if_pos hwt, hwt]
  refine rh [1, 2, 7, 8] (k := rs (k := rs (k := ?_)))
  have hB21 : 21 ≤ (bytesB t).length := bytesB_min hfwt.ok hwt
  have h10 : (((bytesB t).length : Int) < 10) = False := eq_false (by omega)
  have H := aj h10 H
  refine rg [1, 2, 7, 28] (k := rc (ht := fun hc0 => ?_) (hf := fun hc0 => ?_))
  · cases hc0
  · refine rk (k := rs (k := ?_))
    have hw3 : IntKind.i64.wrap (((bytesB t).length : Int) - 3) = ((bytesB t).length : Int) - 3 := wrap_i64 (by omega)
    have hkb := withinI_bound (n := at_) (lo := 0) (hi := ((bytesB t).length : Int) - 3) (by omega)
    obtain ⟨k, hk⟩ : ∃ k : Nat, withinI at_ 0 (((bytesB t).length : Int) - 3) = k := ⟨_, (Int.toNat_of_nonneg hkb.1).symm⟩
    have hkB : (bytesB t).length = (bodyB t).length + 2 := by unfold bytesB; rw [sealB_len]
    have hkl : ((k : Int) ≤ ((bytesB t).length : Int)) = True := eq_true (by omega)
    have hkt : ((bytesB t).map (PV.int .u8)).take k = ((bodyB t).take k).map (PV.int .u8) := by rw [← List.map_take]; congr 1; unfold bytesB sealB; rw [List.take_append_of_le_length (by omega)]
    have H := aj hw3 (aj hkl (aj hkt H))
    refine rr (k := ro (pre := [_, _, _, _]) (k := ?_))
    refine RunO.callw au au au (by kernel_rfl) ((within_ (lo := 0) (hi := ((bytesB t).length : Int) - 3) (by decide) (by omega) (by omega)).mono ?_)
    rintro r s9 ⟨rfl, hs⟩
    subst s9
    rw [hk]
    refine rh [2, 7, 9] (k := rs (k := rr (k := ro (pre := [_, _, _]) (k := rC (h := ref1_Seal (l := (bodyB t).take k) ((bodyB_ok t).take k) (by simp; omega)) (k := ?_)))))
    refine RunO.callw au au au (by kernel_rfl) ((deed_Read (bs := sealB ((bodyB t).take k)) (sealB_ok ((bodyB_ok t).take k)) (by rw [sealB_len]; simp; omega)).mono ?_)
    rintro r s9 ⟨rfl, hs⟩
    subst s9
    rw [read_same, rRead_cut hUt hwt (by omega)]
    refine rh [2, 7, 11] (k := rs (k := ?_))
    refine Run.abs' (fun s6 => Fr s s6) (by repeat (first | exact Fr.refl hwf | refine Fr.new ?_ _ | refine Fr.set ?_ (by first | omega | (simp only [nxt_new, nxt_set]; omega)) (by simp only [nxt_new, nxt_set]; omega) _)) ?_
    intro s6 F6
    refine Run.reserve ?_
    obtain ⟨S0, hS0⟩ : ∃ S0, s6.new .res = S0 := ⟨_, rfl⟩
    have hXn : s6.nxt < S0.nxt := by rw [← hS0, nxt_new]; omega
    have hXr : S0.blk s6.nxt = some .res := by rw [← hS0, blk_new, if_pos rfl]
    have F0 : Fr s S0 := by rw [← hS0]; exact F6.new _
    rw [hS0]
    have hB : bytesB t = bodyB t ++ [crcOf (bodyB t) % 256, crcOf (bodyB t) / 256] := rfl
    have hBl : (bytesB t).length = (bodyB t).length + 2 := by rw [hB]; simp
    obtain ⟨B, hBB⟩ : ∃ B, bodyB t = B := ⟨_, rfl⟩
    rw [hBB] at hB hBl
    have hbw : IntKind.i64.wrap (((bytesB t).length : Int) - 2) = ((bytesB t).length : Int) - 2 := wrap_i64 (by omega)
    have hbn : (((bytesB t).length : Int) - 2).toNat = B.length := by omega
    have hb0 : (0 ≤ ((bytesB t).length : Int) - 2) = True := eq_true (by omega)
    have hb1 : (((bytesB t).length : Int) - 2 ≤ (bytesB t).length) = True := eq_true (by omega)
    have hbt : ((bytesB t).map (PV.int .u8)).take B.length = B.map (PV.int .u8) := by rw [← List.map_take, hB, List.take_left']; rfl
    have hBne : B.map (PV.int .u8) ≠ [] := by intro h; have := List.map_eq_nil_iff.1 h; rw [this] at hBl; simp at hBl; omega
    obtain ⟨mn, hmn⟩ : ∃ m : Nat, m = min 20 more.length := ⟨_, rfl⟩
    have hmn2 : (if (20 : Int) < (more.length : Int) then 20 else (more.length : Int)) = (mn : Int) := by split <;> omega
    have hml : ((mn : Int) ≤ (more.length : Int)) = True := eq_true (by omega)
    have hmt : (more.map (PV.int .u8)).take mn = (more.take mn).map (PV.int .u8) := List.map_take.symm
    obtain ⟨M, hM⟩ : ∃ M, more.take mn = M := ⟨_, rfl⟩
    have hMo : OkB M := by rw [← hM]; exact hmo.take mn
    have hMl : M.length ≤ 20 := by rw [← hM, List.length_take]; omega
    rw [hM] at hmt
    have ha1 := aAppend_clip (P := Try.prog) (e := 5) (xs := []) (s := S0) hBne
    have hb1' := aAppend_clip_set (P := Try.prog) (e := 5) (xs := []) (s := S0) (X := s6.nxt) (r := (some (.row 24 [.agg [.int .i64 0, .sl .nil []]]))) hBne (by omega)
    obtain ⟨S1, hS1⟩ : ∃ S1, S0.new (.tok (([] : List PV).length + (B.map (PV.int .u8)).length)) = S1 := ⟨_, rfl⟩
    rw [hS1] at ha1 hb1'
    have h1n : S1.nxt = S0.nxt + 1 := by rw [← hS1, nxt_new]
    have h1r : S1.blk s6.nxt = some .res := by rw [← hS1, blk_new, if_neg (by omega)]; exact hXr
    have h1t : S1.blk S0.nxt = some (.tok (([] : List PV).length + (B.map (PV.int .u8)).length)) := by rw [← hS1, blk_new, if_pos rfl]
    have F1' : Fr s S1 := by rw [← hS1]; exact F0.new _
    obtain ⟨k13, S2, hb2, ha2, h2n, h2b, h2w⟩ := aAppend_clip_any (P := Try.prog) (e := 5) (xs := [.int .u8 0]) (ys := M.map (PV.int .u8)) (s := S1) (X := s6.nxt) (by omega)
    have h2r : S2.blk s6.nxt = some .res := by rw [h2b _ (by omega)]; exact h1r
    have h2t : S2.blk S0.nxt = some (.tok (([] : List PV).length + (B.map (PV.int .u8)).length)) := by rw [h2b _ (by omega)]; exact h1t
    have F2' : Fr s S2 := ⟨h2w F1'.wf, by have := F1'.nxt; omega, fun i hi => by rw [h2b i (by have := F1'.nxt; omega)]; exact F1'.blk i hi⟩
    have hyne : ([.int .u8 0] ++ M.map (PV.int .u8) : List PV) ≠ [] := by simp
    have ha3 := aAppend_tok (P := Try.prog) (e := 5) (xs := [] ++ B.map (PV.int .u8)) (s := S2) hyne h2t (by simp)
    have hb3 := aAppend_tok_set (P := Try.prog) (e := 5) (xs := [] ++ B.map (PV.int .u8)) (s := S2) (X := s6.nxt) (r := (some (.row 24 [.agg [.int .i64 0, .sl .nil []]]))) hyne h2t (by simp) (by omega)
    obtain ⟨S3, hS3⟩ : ∃ S3, S2.set S0.nxt (some (.tok ((([] : List PV) ++ B.map (PV.int .u8)).length + (([.int .u8 0] ++ M.map (PV.int .u8) : List PV)).length))) = S3 := ⟨_, rfl⟩
    rw [hS3] at ha3 hb3
    have h3r : S3.blk s6.nxt = some .res := by rw [← hS3, blk_set, if_neg (by omega)]; exact h2r
    have F3' : Fr s S3 := by rw [← hS3]; exact F2'.set (by have := F0.nxt; omega) (by omega) _
    have hz2 : OkB (B ++ 0 :: M) := (by rw [← hBB]; exact bodyB_ok t : OkB B).append (by intro y hy; rcases List.mem_cons.1 hy with rfl | hy; exact (by decide); exact hMo y hy)
    have hk2 : PV.weaks ([] ++ B.map (PV.int .u8) ++ ([.int .u8 0] ++ M.map (PV.int .u8))) = (B ++ 0 :: M).map (PV.int .u8) := by rw [weaks_map]; simp [Function.comp_def, PV.weak]
    have hk3 : PV.weaks (B.map (PV.int .u8) ++ ([.int .u8 0] ++ M.map (PV.int .u8))) = (B ++ 0 :: M).map (PV.int .u8) := by rw [weaks_map]; simp [Function.comp_def, PV.weak]
    have hk4 : PV.weaks (B.map (PV.int .u8) ++ .int .u8 0 :: M.map (PV.int .u8)) = (B ++ 0 :: M).map (PV.int .u8) := by rw [weaks_map]; simp [Function.comp_def, PV.weak]
    have hmr : dRead (sealB (B ++ 0 :: M)) = (tab0, 12) := by rw [read_same, ← hBB]; exact rRead_more hUt (by simp) (by simp; omega)
    have hXlt := F6.nxt
    obtain ⟨Gf, hGf⟩ : ∃ Gf : St → St, Gf = fun z => if z.nxt = 0 then (S3.set s6.nxt (some (.row 24 [.agg [.int .i64 0, .sl .nil []]]))).set s6.nxt (some (.row 24 [.agg [.int .i64 tab0.frame, .sl .unk (tab0.tens.map Ten.pv)]])) else z.set s6.nxt (some (.row 24 [.agg [.int .i64 0, .sl .nil []]])) := ⟨_, rfl⟩
    have hG0 : Gf S0 = S0.set s6.nxt (some (.row 24 [.agg [.int .i64 0, .sl .nil []]])) := by rw [hGf]; exact if_neg (by omega)
    have hG1 : Gf S1 = S1.set s6.nxt (some (.row 24 [.agg [.int .i64 0, .sl .nil []]])) := by rw [hGf]; exact if_neg (by omega)
    have hG2 : Gf S2 = S2.set s6.nxt (some (.row 24 [.agg [.int .i64 0, .sl .nil []]])) := by rw [hGf]; exact if_neg (by omega)
    have hX3 := lt_blk F3'.wf h3r
    have hG3 : Gf S3 = S3.set s6.nxt (some (.row 24 [.agg [.int .i64 0, .sl .nil []]])) := by rw [hGf]; exact if_neg (by omega)
    have hGb : Gf badSt = (S3.set s6.nxt (some (.row 24 [.agg [.int .i64 0, .sl .nil []]]))).set s6.nxt (some (.row 24 [.agg [.int .i64 tab0.frame, .sl .unk (tab0.tens.map Ten.pv)]])) := by rw [hGf]; exact if_pos rfl
    have hFb : Fr s ((S3.set s6.nxt (some (.row 24 [.agg [.int .i64 0, .sl .nil []]]))).set s6.nxt (some (.row 24 [.agg [.int .i64 tab0.frame, .sl .unk (tab0.tens.map Ten.pv)]]))) := (F3'.set (by omega) (by omega) _).set (by omega) (by simp only [nxt_set]; omega) _
    rw [← hG0] at hb1'
    rw [← hG2] at hb3
    have hb2 := hb2 (some (.row 24 [.agg [.int .i64 0, .sl .nil []]]))
    rw [← hG1, ← hG2] at hb2
    rw [← hG1] at hb1'
    rw [← hG3] at hb3
    have H := aj hbw (aj hbn (aj hb0 (aj hb1 (aj hbt (aj hmn2 (aj hml (aj hmt (aj hk2 (aj hk3 (aj hk4 (aj hG3 (aj hGb (aj h3r H)))))))))))))
    refine Run.drawG 23 [6, 13, 14, 21] 20 (Gf) [S0, S1, S2, S3, badSt] Try.mixed (by kernel_rfl) (by kernel_rfl) (by decide) (by decide) ?_
    refine DetGC.pre (pre := [_]) (by decide) List.mem_cons_self au ?_
    refine DetGC.pre (pre := [_]) (by decide) List.mem_cons_self au ?_
    refine DetGC.pre (pre := [_]) (by decide) List.mem_cons_self au ?_
    refine DetGC.pre (pre := [_]) (by decide) List.mem_cons_self au ?_
    refine DetGC.pre (pre := [_]) (by decide) List.mem_cons_self au ?_
    refine DetGC.pre (pre := [_]) (by decide) List.mem_cons_self au ?_
    refine DetGC.appE (by decide) List.mem_cons_self au au au Try.td33 (by rw [Try.zp5]; rfl) (by intro el hel; cases hel) (isEls_map (P := Try.prog) (e := 5) (f := PV.int .u8) (fun a => ⟨rfl, by rw [Try.cz5]; rfl⟩) B) (by rw [Try.by5]; decide) (by rw [Try.by5]; simp; omega) ha1 hb1' ?_
    refine DetGC.pre (pre := [_]) (by decide) (List.mem_cons_of_mem _ List.mem_cons_self) au ?_
    refine DetGC.pre (pre := [_]) (by decide) (List.mem_cons_of_mem _ List.mem_cons_self) au ?_
    refine DetGC.pre (pre := [_]) (by decide) (List.mem_cons_of_mem _ List.mem_cons_self) au ?_
    refine DetGC.pre (pre := [_]) (by decide) (List.mem_cons_of_mem _ List.mem_cons_self) au ?_
    refine DetGC.pre (pre := [_]) (by decide) (List.mem_cons_of_mem _ List.mem_cons_self) au ?_
    refine DetGC.pre (pre := [_]) (by decide) (List.mem_cons_of_mem _ List.mem_cons_self) au ?_
    refine DetGC.appE (by decide) (List.mem_cons_of_mem _ List.mem_cons_self) au au au Try.td33 (by rw [Try.zp5]; rfl) (isEls_map (P := Try.prog) (e := 5) (f := PV.int .u8) (fun a => ⟨rfl, by rw [Try.cz5]; rfl⟩) [0]) (isEls_map (P := Try.prog) (e := 5) (f := PV.int .u8) (fun a => ⟨rfl, by rw [Try.cz5]; rfl⟩) M) (by rw [Try.by5]; decide) (by rw [Try.by5]; simp; omega) ha2 hb2 ?_
    refine DetGC.appE (by decide) (List.mem_cons_of_mem _ (List.mem_cons_of_mem _ List.mem_cons_self)) au au au Try.td33 (by rw [Try.zp5]; rfl) (by rw [List.nil_append]; exact (isEls_map (P := Try.prog) (e := 5) (f := PV.int .u8) (fun a => ⟨rfl, by rw [Try.cz5]; rfl⟩) B)) (by rw [show ([.int .u8 0] ++ M.map (PV.int .u8) : List PV) = (0 :: M).map (PV.int .u8) from rfl]; exact (isEls_map (P := Try.prog) (e := 5) (f := PV.int .u8) (fun a => ⟨rfl, by rw [Try.cz5]; rfl⟩) (0 :: M))) (by rw [Try.by5]; decide) (by rw [Try.by5]; simp; omega) ha3 hb3 ?_
    refine DetGC.call (by decide) (by decide) au au au (by kernel_rfl) (List.mem_cons_of_mem _ (List.mem_cons_of_mem _ (List.mem_cons_of_mem _ List.mem_cons_self))) (fun s => ref1_Seal (l := B ++ 0 :: M) hz2 (by simp; omega)) ?_
    refine DetGC.call (by decide) (by decide) au au au (by kernel_rfl) (List.mem_cons_of_mem _ (List.mem_cons_of_mem _ (List.mem_cons_of_mem _ List.mem_cons_self))) (fun s => (show ACalls Try.prog 20 [.sl .unk ((sealB (B ++ 0 :: M)).map (PV.int .u8))] s (fun r s9 => r = .tuple [tab0.pv, .int .i64 12] ∧ s9 = s) from (deed_Read (bs := sealB (B ++ 0 :: M)) (sealB_ok hz2) (by rw [sealB_len]; simp; omega)).mono (by rintro r s9 ⟨rfl, rfl⟩; rw [hmr]; exact ⟨rfl, rfl⟩))) ?_
    refine DetGC.pre (pre := [_]) (by decide) (List.mem_cons_of_mem _ (List.mem_cons_of_mem _ (List.mem_cons_of_mem _ List.mem_cons_self))) au ?_
    refine DetGC.pre (pre := [_]) (by decide) (List.mem_cons_of_mem _ (List.mem_cons_of_mem _ (List.mem_cons_of_mem _ List.mem_cons_self))) au ?_
    refine DetGC.pre (pre := [_]) (by decide) (List.mem_cons_of_mem _ (List.mem_cons_of_mem _ (List.mem_cons_of_mem _ List.mem_cons_self))) au ?_
    refine DetGC.resAlloc (id := s6.nxt) rfl (List.mem_cons_of_mem _ (List.mem_cons_of_mem _ (List.mem_cons_of_mem _ List.mem_cons_self))) au rfl (by rw [Try.zp24]) (by intro z hz; simp only [List.mem_cons, List.not_mem_nil, or_false] at hz; rcases hz with rfl | rfl | rfl | rfl | rfl; exact .inl ⟨hXr, hG0⟩; exact .inl ⟨h1r, hG1⟩; exact .inl ⟨h2r, hG2⟩; exact .inl ⟨h3r, hG3⟩; exact .inr badSt_wf) ?_
    refine DetGC.effG badSt (by decide) (List.mem_cons_of_mem _ (List.mem_cons_of_mem _ (List.mem_cons_of_mem _ List.mem_cons_self))) (by kernel_rfl) au au ?_
    refine DetGC.all (by decide) (List.mem_cons_of_mem _ (List.mem_cons_of_mem _ (List.mem_cons_of_mem _ (List.mem_cons_of_mem _ List.mem_cons_self)))) au ?_
    refine rl [11, 13] (k := rs (k := rr (k := ro (pre := [_, _, _, _, _, _, _]) (k := rQ 68 (ht := fun hg6 => ?_) (hf := fun hg6 => ?_)))))
    · refine rC (h := law_known) (k := rh [6] (k := rR (k := ?_)))
      refine Ret.pure (by simp only [Try.f8, go_sem] <;> rfl) rfl (by simp only [go_sem, reduceCtorEq, false_implies, implies_true]) hwf (by first | exact (hFb).blk) ⟨?_, rfl⟩
      · rfl
    · first | cases hg6 | simp at hg6
end Go.Proofs
