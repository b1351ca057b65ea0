import Derived.Test.YtncekipmolecpaaB3
import Derived.Test.YtncekipmolecpaaB2
set_option linter.unusedVariables false
set_option linter.unusedSimpArgs false
namespace Go.Proofs
open Go.PM
set_option maxHeartbeats 2000000
attribute [local go_sem] List.set_set List.map_nil List.length_nil List.length_set Int.toNat_natCast Nat.zero_add Tab.pv
theorem isEls_none (P : Program) (e : TypeId) : isEls P e [] := fun p hp => by cases hp
def ListR (s' : St) (lo : Nat) (v : PV) (els : List PV) : Prop := (∃ k, v = .sl k els) ∨ ∃ L ty, v = .own L 0 els.length ∧ lo < L ∧ s'.blk L = some (.row ty els)
def TenR (s' : St) (lo : Nat) (el : PV) (x : Ten) : Prop := ∃ vw vs, el = .agg [.int .i64 x.unit, .int .u32 x.fns, .int .i64 x.queue, vw, vs] ∧ ListR s' lo vw (x.wins.map Win.pv) ∧ ListR s' lo vs (x.slts.map Slt.pv)
structure OddR (s0 s' : St) (t' : Tab) : Prop where
  fr : Fr s0 s'
  lt : s0.nxt + 1 < s'.nxt
  row : ∃ A els, s'.blk s0.nxt = some (.row 24 [.agg [.int .i64 t'.frame, .own A 0 t'.tens.length]]) ∧ s0.nxt + 1 < A ∧ s'.blk A = some (.row 43 els) ∧ els.length = t'.tens.length ∧ ∀ j (h : j < els.length) (h' : j < t'.tens.length), TenR s' (s0.nxt + 1) els[j] t'.tens[j]
theorem ListR.frz {s' : St} {lo : Nat} {v : PV} {els : List PV} (h : ListR s' lo v els) {q : Nat → Bool} (hq : ∀ i, lo < i → q i = false) (n : Nat) (hf : ∀ e ∈ els, PV.frz true s' q n e = e) : PV.frz true s' q (n + 1) v = .sl .unk els := by
  have hm : els.map (PV.frz true s' q n) = els := by
    conv => rhs; rw [← List.map_id els]
    exact List.map_congr_left fun e he => by rw [hf e he]; rfl
  rcases h with ⟨k, rfl⟩ | ⟨L, ty, rfl, h2, h3⟩
  · unfold PV.frz
    rw [hm]; rfl
  · unfold PV.frz
    rw [if_neg (by rw [hq L h2]; simp), h3]
    simp only [Nat.zero_add, List.drop_zero, Nat.le_refl, if_true, List.take_length, hm]
theorem TenR.frz {s' : St} {lo : Nat} {el : PV} {x : Ten} (h : TenR s' lo el x) {q : Nat → Bool} (hq : ∀ i, lo < i → q i = false) : PV.frz true s' q 5 el = x.pv := by
  obtain ⟨vw, vs, rfl, hw, hs⟩ := h
  have e1 := hw.frz hq 3 (fun e he => by obtain ⟨w, _, rfl⟩ := List.mem_map.1 he; simp [Win.pv, PV.frz, PV.weak])
  have e2 := hs.frz hq 3 (fun e he => by obtain ⟨w, _, rfl⟩ := List.mem_map.1 he; simp [Slt.pv, PV.frz, PV.weak])
  unfold PV.frz
  simp only [List.map_cons, List.map_nil, e1, e2]
  simp [PV.frz, PV.weak, Ten.pv]
theorem OddR.frz {s0 s' : St} {t' : Tab} (h : OddR s0 s' t') {A : Nat} (hA : s'.blk s0.nxt = some (.row 24 [.agg [.int .i64 t'.frame, .own A 0 t'.tens.length]])) : PV.frz true s' (fun i => decide (i < s0.nxt)) 7 (.agg [.int .i64 t'.frame, .own A 0 t'.tens.length]) = t'.pv := by
  obtain ⟨B, els, h1, h2, h3, h4, h5⟩ := h.row
  rw [h1] at hA
  have : B = A := by simpa using hA
  subst this
  have hq : ∀ i, s0.nxt + 1 < i → (fun i => decide (i < s0.nxt)) i = false := fun i hi => decide_eq_false (by omega)
  have hm : els.map (PV.frz true s' (fun i => decide (i < s0.nxt)) 5) = t'.tens.map Ten.pv := by
    refine List.ext_getElem (by simp [h4]) fun j a b => ?_
    simp only [List.length_map] at a b
    rw [List.getElem_map, List.getElem_map]
    exact (h5 j a b).frz hq
  unfold PV.frz
  simp only [List.map_cons, List.map_nil]
  unfold PV.frz
  rw [if_neg (by rw [decide_eq_false (by omega : ¬ B < s0.nxt)]; simp), h3]
  simp only [Nat.zero_add, List.drop_zero, ← h4, Nat.le_refl, if_true, List.take_length, hm]
  simp [PV.weak, Tab.pv]
theorem ListR.mono {s' s'' : St} {lo : Nat} {v : PV} {els : List PV} (h : ListR s' lo v els) (hb : ∀ i, lo < i → s''.blk i = s'.blk i) : ListR s'' lo v els := by
  rcases h with h | ⟨L, ty, h1, h2, h3⟩
  · exact .inl h
  · exact .inr ⟨L, ty, h1, h2, by rw [hb L h2]; exact h3⟩
theorem TenR.mono {s' s'' : St} {lo : Nat} {el : PV} {x : Ten} (h : TenR s' lo el x) (hb : ∀ i, lo < i → s''.blk i = s'.blk i) : TenR s'' lo el x := by
  obtain ⟨vw, vs, h1, h2, h3⟩ := h
  exact ⟨vw, vs, h1, h2.mono hb, h3.mono hb⟩
theorem TenR.same (s' : St) (lo : Nat) (x : Ten) : TenR s' lo x.pv x := ⟨_, _, rfl, .inl ⟨_, rfl⟩, .inl ⟨_, rfl⟩⟩
theorem OddR.set {s0 s' : St} {t' : Tab} (h : OddR s0 s' t') (b : Option Blk) : OddR s0 (s'.set (s0.nxt + 1) b) t' where
  fr := h.fr.set (Nat.le_succ _) h.lt _
  lt := h.lt
  row := by
    obtain ⟨B, els, h1, h2, h3, h4, h5⟩ := h.row
    refine ⟨B, els, by rw [blk_set, if_neg (by omega)]; exact h1, h2, by rw [blk_set, if_neg (by omega)]; exact h3, h4, fun j a b => (h5 j a b).mono fun i hi => by rw [blk_set, if_neg (by omega)]⟩
theorem Run.abs {P : Program} {N : Nat} {k : List KI} {e : Env} {s : St} {rt : Env → St → Prop} (I : St → Prop) (h1 : I s) (h2 : ∀ s', I s' → Run P N k e s' rt) : Run P N k e s rt := h2 s h1
theorem tens_set {s' : St} {lo : Nat} {tens : List Ten} {k : Nat} {X : PV} {x' : Ten} (hX : TenR s' lo X x') : ∀ j (h : j < ((tens.map Ten.pv).set k X).length) (h' : j < (tens.set k x').length), TenR s' lo (((tens.map Ten.pv).set k X)[j]) ((tens.set k x')[j]) := by
  intro j h h'
  simp only [List.getElem_set]
  split
  · exact hX
  · rw [List.getElem_map]; exact TenR.same _ _ _
theorem odd_done {s0 s' : St} {t : Tab} {k : Nat} {X : PV} {x' : Ten} {f : Int} {A : Nat} (fr : Fr s0 s') (lt : s0.nxt + 1 < s'.nxt) (b4 : s'.blk s0.nxt = some (.row 24 [.agg [.int .i64 f, .own A 0 t.tens.length]])) (hA : s0.nxt + 1 < A)
    (bA : s'.blk A = some (.row 43 ((t.tens.map Ten.pv).set k X))) (hX : TenR s' (s0.nxt + 1) X x') : OddR s0 s' ⟨f, t.tens.set k x'⟩ :=
  ⟨fr, lt, A, _, by rw [List.length_set]; exact b4, hA, bA, by simp, tens_set hX⟩
theorem odd_app {s0 s' : St} {t : Tab} {k : Nat} {X : PV} {x' : Ten} {f : Int} {A : Nat} (fr : Fr s0 s') (lt : s0.nxt + 1 < s'.nxt) (b4 : s'.blk s0.nxt = some (.row 24 [.agg [.int .i64 f, .own A 0 (t.tens.length + 1)]])) (hA : s0.nxt + 1 < A)
    (bA : s'.blk A = some (.row 43 ((t.tens.map Ten.pv).set k X ++ [X]))) (hX : TenR s' (s0.nxt + 1) X x') : OddR s0 s' ⟨f, t.tens.set k x' ++ [x']⟩ := by
  refine ⟨fr, lt, A, _, by rw [List.length_append, List.length_set]; exact b4, hA, bA, by simp, fun j h h' => ?_⟩
  by_cases hj : j < (t.tens.set k x').length
  · rw [List.getElem_append_left (by simpa using hj), List.getElem_append_left hj]
    exact tens_set hX j (by simpa using hj) hj
  · have e : j = (t.tens.set k x').length := by simp at h' hj ⊢; omega
    have e2 : ((t.tens.map Ten.pv).set k X).length = (t.tens.set k x').length := by simp
    rw [List.getElem_append_right (by omega), List.getElem_append_right (by omega)]
    simp only [e, e2, Nat.sub_self, List.getElem_cons_zero]
    exact hX
def modF {α : Type} (l : List α) (i : Nat) (f : α → α) : List α := match l[i]? with
  | some v => l.set i (f v)
  | none => l
theorem modF_lt {α : Type} {l : List α} {i : Nat} {f : α → α} {v : α} (h : i < l.length) (e : l[i] = v) : modF l i f = l.set i (f v) := by
  unfold modF; rw [List.getElem?_eq_getElem h, e]
theorem modF_ge {α : Type} {l : List α} {i : Nat} {f : α → α} (h : l.length ≤ i) : modF l i f = l := by
  unfold modF; rw [List.getElem?_eq_none h]
theorem modF_len {α : Type} (l : List α) (i : Nat) (f : α → α) : (modF l i f).length = l.length := by
  unfold modF; split <;> simp
theorem modF_mem {α : Type} {l : List α} {i : Nat} {f : α → α} {y : α} (h : y ∈ modF l i f) : y ∈ l ∨ ∃ v ∈ l, y = f v := by
  unfold modF at h
  split at h
  · rename_i v hv
    rcases List.mem_or_eq_of_mem_set h with h | h
    · exact .inl h
    · exact .inr ⟨v, List.mem_of_getElem? hv, h⟩
  · exact .inl h
def oddX (x : Ten) (w : Int) (wi si : Nat) (at_ n : Int) : Ten :=
  ⟨if w = 1 then n else x.unit, if w = 3 then IntKind.u32.wrap n else x.fns, if w = 2 then n else x.queue,
   if w = 5 then x.wins ++ [⟨ibits .and .i64 n 3, ibits .and .i64 at_ 1023, ibits .and .i64 n 511, 1 + ibits .and .i64 at_ 31⟩]
   else if w = 6 then modF x.wins wi fun v => ⟨v.space, v.virt, n, v.cnt⟩
   else if w = 7 then modF x.wins wi fun v => ⟨v.space, n, v.phys, v.cnt⟩
   else if w = 8 then modF x.wins wi fun v => ⟨v.space, v.virt, v.phys, n⟩
   else if w = 13 then modF x.wins wi fun v => ⟨ibits .and .i64 n 7, v.virt, v.phys, v.cnt⟩ else x.wins,
   if w = 4 then x.slts ++ [⟨n, 72⟩] else if w = 9 then modF x.slts si fun v => ⟨n, v.len⟩ else if w = 10 then modF x.slts si fun v => ⟨v.pos, n⟩ else if w = 12 then [] else x.slts⟩
def oddG (t : Tab) (k : Nat) (x : Ten) (w : Int) (wi si : Nat) (at_ n : Int) : Tab :=
  ⟨if w = 0 then n else t.frame, t.tens.set k (oddX x w wi si at_ n) ++ if w = 11 then [x] else []⟩
def oddF (t : Tab) (what at_ n : Int) : Tab :=
  match t.tens[(withinI at_ 0 ((t.tens.length : Int) - 1)).toNat]? with
  | none => t
  | some x => oddG t (withinI at_ 0 ((t.tens.length : Int) - 1)).toNat x (withinI what 0 13) (withinI n 0 5).toNat (withinI n 0 2).toNat at_ n
theorem oddF_eq {t : Tab} {what at_ n wv : Int} {k wi si : Nat} {x : Ten} (hkw : withinI at_ 0 ((t.tens.length : Int) - 1) = k) (hkl : k < t.tens.length) (hxe : t.tens[k] = x) (hwv : withinI what 0 13 = wv) (hwi : withinI n 0 5 = wi) (hsi : withinI n 0 2 = si) :
    oddF t what at_ n = oddG t k x wv wi si at_ n := by
  unfold oddF
  rw [hkw, hwv, hwi, hsi, Int.toNat_natCast, List.getElem?_eq_getElem hkl, hxe]
  simp only [Int.toNat_natCast]
theorem oddX_ok {x : Ten} (h : x.ok) {m : Nat} (hm : m ≤ 1000) (h1 : x.wins.length ≤ m) (h2 : x.slts.length ≤ m) (w : Int) (wi si : Nat) {at_ n : Int} (hn : I64 n) : (oddX x w wi si at_ n).ok ∧ (oddX x w wi si at_ n).wins.length ≤ m + 1 ∧ (oddX x w wi si at_ n).slts.length ≤ m + 1 := by
  have hb0 : 0 ≤ ibits .and .i64 n 3 ∧ ibits .and .i64 n 3 ≤ 3 := ibits_and_le n 3 (by decide)
  have hb1 : 0 ≤ ibits .and .i64 at_ 1023 ∧ ibits .and .i64 at_ 1023 ≤ 1023 := ibits_and_le at_ 1023 (by decide)
  have hb2 : 0 ≤ ibits .and .i64 n 511 ∧ ibits .and .i64 n 511 ≤ 511 := ibits_and_le n 511 (by decide)
  have hb3 : 0 ≤ ibits .and .i64 at_ 31 ∧ ibits .and .i64 at_ 31 ≤ 31 := ibits_and_le at_ 31 (by decide)
  have hb4 : 0 ≤ ibits .and .i64 n 7 ∧ ibits .and .i64 n 7 ≤ 7 := ibits_and_le n 7 (by decide)
  have lw : (oddX x w wi si at_ n).wins.length ≤ m + 1 := by
    simp only [oddX]; repeat' split
    all_goals (try simp only [modF_len, List.length_append, List.length_cons, List.length_nil]); omega
  have ls : (oddX x w wi si at_ n).slts.length ≤ m + 1 := by
    simp only [oddX]; repeat' split
    all_goals (try simp only [modF_len, List.length_append, List.length_cons, List.length_nil]); omega
  refine ⟨⟨?_, ?_, ?_, ?_, ?_, by omega, by omega⟩, lw, ls⟩
  · simp only [oddX]; split <;> first | exact hn | exact h.unit
  · simp only [oddX]; split <;> first | exact U32_wrap n | exact h.fns
  · simp only [oddX]; split <;> first | exact hn | exact h.queue
  · intro v hv
    simp only [oddX] at hv
    split at hv
    · rcases List.mem_append.1 hv with hv | hv
      · exact h.wins v hv
      · rw [List.mem_singleton.1 hv]; exact ⟨⟨by simp only; omega, by simp only; omega⟩, ⟨by simp only; omega, by simp only; omega⟩, ⟨by simp only; omega, by simp only; omega⟩, ⟨by simp only; omega, by simp only; omega⟩⟩
    all_goals
      split at hv
      · rcases modF_mem hv with hv | ⟨u, hu, rfl⟩
        · exact h.wins v hv
        · have := h.wins u hu; exact ⟨this.space, this.virt, hn, this.cnt⟩
      split at hv
      · rcases modF_mem hv with hv | ⟨u, hu, rfl⟩
        · exact h.wins v hv
        · have := h.wins u hu; exact ⟨this.space, hn, this.phys, this.cnt⟩
      split at hv
      · rcases modF_mem hv with hv | ⟨u, hu, rfl⟩
        · exact h.wins v hv
        · have := h.wins u hu; exact ⟨this.space, this.virt, this.phys, hn⟩
      split at hv
      · rcases modF_mem hv with hv | ⟨u, hu, rfl⟩
        · exact h.wins v hv
        · have := h.wins u hu; exact ⟨⟨by simp only; omega, by simp only; omega⟩, this.virt, this.phys, this.cnt⟩
      · exact h.wins v hv
  · intro v hv
    simp only [oddX] at hv
    split at hv
    · rcases List.mem_append.1 hv with hv | hv
      · exact h.slts v hv
      · rw [List.mem_singleton.1 hv]; exact ⟨hn, (show I64 72 by decide)⟩
    split at hv
    · rcases modF_mem hv with hv | ⟨u, hu, rfl⟩
      · exact h.slts v hv
      · have := h.slts u hu; exact ⟨hn, this.len⟩
    split at hv
    · rcases modF_mem hv with hv | ⟨u, hu, rfl⟩
      · exact h.slts v hv
      · have := h.slts u hu; exact ⟨this.pos, hn⟩
    split at hv
    · cases hv
    · exact h.slts v hv
theorem few_app {t : Tab} {m : Nat} (ht : t.few (m + 1)) {x : Ten} (hx : x.ok) (h1 : x.wins.length ≤ m + 1) (h2 : x.slts.length ≤ m + 1) (hn : t.tens.length ≤ m) (hm : m ≤ 1000) : Tab.few ⟨t.frame, t.tens ++ [x]⟩ (m + 1) := by
  refine ⟨⟨ht.ok.frame, fun y hy => ?_, by simp; omega⟩, by simp; omega, fun y hy => ?_, fun y hy => ?_⟩
  · rcases List.mem_append.1 hy with h | h
    · exact ht.ok.tens y h
    · rw [List.mem_singleton.1 h]; exact hx
  · rcases List.mem_append.1 hy with h | h
    · exact ht.nw y h
    · rw [List.mem_singleton.1 h]; exact h1
  · rcases List.mem_append.1 hy with h | h
    · exact ht.ns y h
    · rw [List.mem_singleton.1 h]; exact h2
theorem few_set {t : Tab} {m : Nat} (ht : t.few m) {k : Nat} {x' : Ten} (h1 : x'.ok) (h2 : x'.wins.length ≤ m + 1) (h3 : x'.slts.length ≤ m + 1) (hm : m ≤ 1000) {f : Int} (hf : I64 f) : Tab.few ⟨f, t.tens.set k x'⟩ (m + 1) := by
  have hnt := ht.nt
  have hin : ∀ y ∈ t.tens.set k x', y ∈ t.tens ∨ y = x' := fun y hy => List.mem_or_eq_of_mem_set hy
  refine ⟨⟨hf, fun y hy => ?_, by rw [List.length_set]; omega⟩, by rw [List.length_set]; omega, fun y hy => ?_, fun y hy => ?_⟩
  · rcases hin y hy with h | rfl
    · exact ht.ok.tens y h
    · exact h1
  · rcases hin y hy with h | rfl
    · have := ht.nw y h; omega
    · exact h2
  · rcases hin y hy with h | rfl
    · have := ht.ns y h; omega
    · exact h3
theorem oddF_few {t : Tab} {m : Nat} (hm : m ≤ 1000) (ht : t.few m) {what at_ n : Int} (hn : I64 n) : (oddF t what at_ n).few (m + 1) := by
  unfold oddF
  split
  · exact ⟨ht.ok, by have := ht.nt; omega, fun x hx => by have := ht.nw x hx; omega, fun x hx => by have := ht.ns x hx; omega⟩
  · rename_i x hx
    have hxm := List.mem_of_getElem? hx
    have h := oddX_ok (ht.ok.tens x hxm) hm (ht.nw x hxm) (ht.ns x hxm) (withinI what 0 13) (withinI n 0 5).toNat (withinI n 0 2).toNat (at_ := at_) hn
    have hF : I64 (if withinI what 0 13 = 0 then n else t.frame) := by split <;> first | exact hn | exact ht.ok.frame
    have h2 := few_set (k := (withinI at_ 0 ((t.tens.length : Int) - 1)).toNat) ht h.1 h.2.1 h.2.2 hm hF
    unfold oddG
    by_cases h11 : withinI what 0 13 = 11
    · rw [if_pos h11 (t := [x])]
      refine few_app h2 (ht.ok.tens x hxm) ?_ ?_ (by simp only [List.length_set]; exact ht.nt) hm
      · have := ht.nw x hxm; omega
      · have := ht.ns x hxm; omega
    · rw [if_neg h11 (t := [x]), List.append_nil]; exact h2
theorem odd_nil {t : Tab} {m : Nat} (hm : m ≤ 1000) (ht : t.few m) {what at_ n : Int} (hwI : I64 what) (haI : I64 at_) (hnI : I64 n) (h0 : t.tens = []) {s : St} : ACalls Try.prog 11 [t.pv, .int .i64 what, .int .i64 at_, .int .i64 n] s (fun r s' => r = (oddF t what at_ n).pv ∧ s' = s) := by
  refine go Try.func11 (k := fun hwf H => ?_)
  have H := aj h0 H
  refine rs (k := rg [1, 2, 3, 4, 8] (k := rs (k := rr (k := rO (k := ro (pre := [_, _]) (k := ?_))))))
  refine RunO.append au au au Try.td22 (by rw [Try.zp43]; rfl) (isEls_none _ _) (isEls_none _ _) (by rw [Try.by43]; decide) (by simp) (v := .sl .clip []) (by unfold aAppend; rw [if_pos rfl]) ?_
  refine rh [1, 2, 3, 4, 8] (k := rs (k := rs (k := rg [1, 2, 3, 4, 8, 21] (k := rc (ht := fun hc0 => ?_) (hf := fun hc0 => ?_)))))
  · refine rs (k := rg [8] (k := rR (k := ?_)))
    refine Ret.pureF (r' := Tab.pv ⟨t.frame, []⟩) 3 (by simp only [Try.f11, go_sem, ↓reduceIte] <;> rfl) (by simp [PV.frz, PV.weak, Tab.pv]) (blw_tab _ _) hwf (fun i hi => ?_) ⟨by simp only [oddF, h0, List.getElem?_nil]; rw [← h0], rfl⟩
    have h0 : ∀ n, (i = s.nxt + n) = False := fun n => eq_false (by omega)
    have h1 : (i = s.nxt) = False := eq_false (by omega)
    simp only [go_sem, Nat.add_assoc, Nat.reduceAdd, ↓reduceIte, h0, h1]
  · cases hc0
set_option maxRecDepth 100000 in
theorem odd_ws {t : Tab} {m : Nat} (hm : m ≤ 1000) (ht : t.few m) {what at_ n : Int} (hwI : I64 what) (haI : I64 at_) (hnI : I64 n) {k : Nat} (hkw : withinI at_ 0 (t.tens.length - 1) = k) (hkl : k < t.tens.length) {x : Ten} (hxe : t.tens[k] = x) (hwe : x.wins ≠ []) (hse : x.slts ≠ []) {s : St} : ACalls Try.prog 11 [t.pv, .int .i64 what, .int .i64 at_, .int .i64 n] s (fun r s' => r = (oddF t what at_ n).pv ∧ s' = s) := by
  refine go Try.func11 (k := fun hwf H => ?_)
  have hnt := ht.nt
  have hxm : x ∈ t.tens := by rw [← hxe]; exact List.getElem_mem _
  have hnw := ht.nw x hxm
  have hns := ht.ns x hxm
  have hte : t.tens ≠ [] := fun h => by rw [h] at hkl; simp at hkl
  have hxx : (t.tens.map Ten.pv)[k]? = some (.agg [.int .i64 (x).unit, .int .u32 (x).fns, .int .i64 (x).queue, .sl .unk ((x).wins.map Win.pv), .sl .unk ((x).slts.map Slt.pv)]) := by rw [map_get hkl, hxe]; rfl
  have hgs : ∀ X, ((t.tens.map Ten.pv).set k X)[k]? = some X := fun X => by rw [List.getElem?_set]; simp [hkl]
  have hwl : IntKind.i64.wrap ((t.tens.length : Int) - 1) = (t.tens.length : Int) - 1 := wrap_i64 (by omega)
  have htl0 : ((t.tens.length : Int) = 0) = False := eq_false (by omega)
  have hk2 : ((k : Int) < (t.tens.length : Int)) = True := eq_true (by omega)
  have H := aj hgs (aj hwl (aj hkw (aj hk2 (aj htl0 H))))
  refine rs (k := rg [1, 2, 3, 4, 8] (k := rs (k := rr (k := rO (k := ro (pre := [_, _]) (k := ?_))))))
  refine RunO.appendFirst au au au Try.td22 (by rw [Try.zp43]; rfl) (isEls_none _ _) (isEls_map (f := Ten.pv) (fun a => ⟨rfl, by rw [Try.cz43]; rfl⟩) _) (by rw [Try.by43]; decide) (by rw [Try.by43]; simp; omega) (by simp only [aAppendFirst, List.map_eq_nil_iff, ne_eq, hte, not_false_eq_true, if_true, List.length_nil, Nat.zero_add, List.length_map, List.nil_append, go_sem]; rfl) ?_
  refine rh [1, 2, 3, 4, 8] (k := rs (k := rs (k := rg [1, 2, 3, 4, 8, 21] (k := rc (ht := fun hc0 => ?_) (hf := fun hc0 => ?_)))))
  · cases hc0
  · have hc := hc0
    refine rk (k := rs (k := rr (k := ro (pre := [_, _, _, _, _]) (k := rC (h := within_ (lo := 0) (hi := (t.tens.length : Int) - 1) (by decide) (by omega) (by omega)) (k := rh [1, 2, 3, 4, 8, 9] (k := rs (k := rg [1, 2, 3, 4, 8, 10] (k := rs (k := ?_)))))))))
    have H := aj hxx H
    refine rr (k := ro (pre := [_]) (k := rO (k := ro (pre := [_, _, _, _]) (k := ?_))))
    refine RunO.appendFirst au au au Try.td40 (by rw [Try.zp45]; rfl) (isEls_none _ _) (isEls_map (f := Win.pv) (fun a => ⟨rfl, by rw [Try.cz45]; rfl⟩) _) (by rw [Try.by45]; decide) (by rw [Try.by45]; simp; omega) (by simp only [aAppendFirst, List.map_eq_nil_iff, ne_eq, hwe, not_false_eq_true, if_true, List.length_nil, Nat.zero_add, List.length_map, List.nil_append, go_sem]; rfl) ?_
    refine rh [1, 2, 3, 4, 8, 10] (k := rs (k := rr (k := ro (pre := [_]) (k := rO (k := ro (pre := [_, _, _, _]) (k := ?_))))))
    refine RunO.appendFirst au au au Try.td41 (by rw [Try.zp48]; rfl) (isEls_none _ _) (isEls_map (f := Slt.pv) (fun a => ⟨rfl, by rw [Try.cz48]; rfl⟩) _) (by rw [Try.by48]; decide) (by rw [Try.by48]; simp; omega) (by simp only [aAppendFirst, List.map_eq_nil_iff, ne_eq, hse, not_false_eq_true, if_true, List.length_nil, Nat.zero_add, List.length_map, List.nil_append, go_sem]; rfl) ?_
    refine rh [1, 2, 3, 4, 8, 10] (k := rs (k := ?_))
    refine Run.abs (fun s1 => Fr s s1 ∧ s1.nxt = s.nxt + 1 + 1 + 1 + 1 + 1 ∧ s1.blk s.nxt = some (.row 24 [.agg [.int .i64 t.frame, .own (s.nxt + 1 + 1) 0 t.tens.length]]) ∧ s1.blk (s.nxt + 1) = some (.row 24 [.agg [.int .i64 0, .sl .nil []]]) ∧ s1.blk (s.nxt + 1 + 1) = some (.row 43 ((t.tens.map Ten.pv).set k (.agg [.int .i64 x.unit, .int .u32 x.fns, .int .i64 x.queue, .own (s.nxt + 1 + 1 + 1) 0 x.wins.length, .own (s.nxt + 1 + 1 + 1 + 1) 0 x.slts.length]))) ∧ s1.blk (s.nxt + 1 + 1 + 1) = some (.row 45 (x.wins.map Win.pv)) ∧ s1.blk (s.nxt + 1 + 1 + 1 + 1) = some (.row 48 (x.slts.map Slt.pv))) ⟨by repeat (first | exact Fr.refl hwf | refine Fr.new ?_ _ | refine Fr.set ?_ (by omega) (by simp only [nxt_new, nxt_set]; omega) _), by simp only [go_sem], by simp only [go_sem, ↓reduceIte, Nat.reduceEqDiff, Nat.reduceAdd], by simp only [go_sem, ↓reduceIte, Nat.reduceEqDiff, Nat.reduceAdd], by simp only [go_sem, ↓reduceIte, Nat.reduceEqDiff, Nat.reduceAdd], by simp only [go_sem, ↓reduceIte, Nat.reduceEqDiff, Nat.reduceAdd], by simp only [go_sem, ↓reduceIte, Nat.reduceEqDiff, Nat.reduceAdd]⟩ ?_
    rintro s1 ⟨F1, hn1, b4, b8, bA, bB, bC⟩
    have hwi0 := withinI_bound (n := n) (lo := 0) (hi := 5) (by decide)
    have hsi0 := withinI_bound (n := n) (lo := 0) (hi := 2) (by decide)
    obtain ⟨wi, hwi⟩ : ∃ y : Nat, withinI n 0 5 = y := ⟨_, (Int.toNat_of_nonneg hwi0.1).symm⟩
    obtain ⟨si, hsi⟩ : ∃ y : Nat, withinI n 0 2 = y := ⟨_, (Int.toNat_of_nonneg hsi0.1).symm⟩
    have z0 : (s.nxt = s1.nxt) = False := eq_false (by omega)
    have z1 : (s.nxt + 1 = s1.nxt) = False := eq_false (by omega)
    have z2 : (s.nxt + 1 + 1 = s1.nxt) = False := eq_false (by omega)
    have z3 : (s.nxt + 1 + 1 + 1 = s1.nxt) = False := eq_false (by omega)
    have z4 : (s.nxt + 1 + 1 + 1 + 1 = s1.nxt) = False := eq_false (by omega)
    have y0 : (s1.nxt = s.nxt) = False := eq_false (by omega)
    have y1 : (s1.nxt = s.nxt + 1) = False := eq_false (by omega)
    have y2 : (s1.nxt = s.nxt + 1 + 1) = False := eq_false (by omega)
    have y3 : (s1.nxt = s.nxt + 1 + 1 + 1) = False := eq_false (by omega)
    have y4 : (s1.nxt = s.nxt + 1 + 1 + 1 + 1) = False := eq_false (by omega)
    have H := aj b4 (aj b8 (aj bA (aj bB (aj bC (aj hwi (aj hsi (aj z0 (aj z1 (aj z2 (aj z3 (aj z4 (aj y0 (aj y1 (aj y2 (aj y3 (aj y4 H))))))))))))))))
    refine rr (k := ro (pre := [_]) (k := rC (h := within_ (lo := 0) (hi := 5) (by decide) (by decide) (by decide)) (k := ro (pre := [_]) (k := rC (h := within_ (lo := 0) (hi := 2) (by decide) (by decide) (by decide)) (k := rh [1, 2, 3, 4, 8, 10, 11, 12] (k := rs (k := rs (k := rr (k := ro (pre := [_]) (k := rC (h := within_ (lo := 0) (hi := 13) (by decide) (by decide) (by decide)) (k := ?_)))))))))))
    refine rl [2, 3, 4, 8, 10, 11, 12, 56] (k := ?_)
    refine Run.join (fun e s' => e = [(4, .ptr s.nxt 0 0), (8, .ptr (s.nxt + 1) 0 0)] ∧ s'.blk (s.nxt + 1) = some (.row 24 [.agg [.int .i64 0, .sl .nil []]]) ∧ OddR s s' (oddF t what at_ n)) ?_ ?_
    · rintro e s2 ⟨rfl, r0, hO⟩
      obtain ⟨A', els, r1, r2, r3, r4, r5⟩ := hO.row
      have H := aj r0 (aj r1 H)
      refine rs (k := rg [8] (k := rR (k := ?_)))
      exact Ret.pureF (r' := (oddF t what at_ n).pv) 7 (by simp only [Try.f11, go_sem, ↓reduceIte, r0, r1] <;> rfl) ((hO.set _).frz (by simp only [go_sem, ↓reduceIte]; exact r1)) (blw_tab _ _) hwf (hO.set _).fr.blk ⟨rfl, rfl⟩
    intro hJb0
    refine rb (k := rs (k := ?_))
    obtain ⟨wv, hwv⟩ : ∃ y, withinI what 0 13 = y := ⟨_, rfl⟩
    have hwb := withinI_bound (n := what) (lo := 0) (hi := 13) (by decide)
    have hodd := oddF_eq hkw hkl hxe hwv hwi hsi (at_ := at_)
    rw [hwv]
    rw [hwv] at hwb
    refine rg [2, 3, 4, 8, 10, 11, 12, 56, 73] (k := rc (ht := fun hc1 => ?_) (hf := fun hc1 => ?_))
    · have hc := hc1
      refine rg [4, 8] (k := rB (k := ?_))
      have hw9 : wv = 0 := by have h := of_decide_eq_true hc1; omega
      subst hw9
      refine rp [4, 8] (k := ?_)
      refine hJb0 _ _ ⟨rfl, au, ?_⟩
      rw [hodd, show oddG t k x 0 wi si at_ n = ⟨n, t.tens.set k (⟨x.unit, x.fns, x.queue, x.wins, x.slts⟩ : Ten)⟩ by simp only [oddG, oddX, Int.reduceEq, reduceCtorEq, ↓reduceIte, List.append_nil]]
      exact odd_done (by repeat (first | exact F1 | refine Fr.new ?_ _ | refine Fr.set ?_ (by omega) (by first | omega | (simp only [nxt_new, nxt_set]; omega)) _)) (by first | omega | (simp only [go_sem]; omega)) au (by omega) au ⟨.own (s.nxt + 1 + 1 + 1) 0 x.wins.length, .own (s.nxt + 1 + 1 + 1 + 1) 0 x.slts.length, rfl, .inr ⟨(s.nxt + 1 + 1 + 1), _, by simp, by omega, (by first | (exact au) | (simp only [List.map_set, List.map_append, List.map_cons, List.map_nil]; exact au))⟩, .inr ⟨(s.nxt + 1 + 1 + 1 + 1), _, by simp, by omega, (by first | (exact au) | (simp only [List.map_set, List.map_append, List.map_cons, List.map_nil]; exact au))⟩⟩
    · have hc := hc1
      refine rs (k := rg [2, 3, 4, 8, 10, 11, 12, 56, 77] (k := rc (ht := fun hc2 => ?_) (hf := fun hc2 => ?_)))
      · have hc := hc2
        refine rg [4, 8] (k := rB (k := ?_))
        have hw9 : wv = 1 := by have h := of_decide_eq_true hc2; omega
        subst hw9
        refine rp [4, 8] (k := ?_)
        refine hJb0 _ _ ⟨rfl, au, ?_⟩
        rw [hodd, show oddG t k x 1 wi si at_ n = ⟨t.frame, t.tens.set k (⟨n, x.fns, x.queue, x.wins, x.slts⟩ : Ten)⟩ by simp only [oddG, oddX, Int.reduceEq, reduceCtorEq, ↓reduceIte, List.append_nil]]
        exact odd_done (by repeat (first | exact F1 | refine Fr.new ?_ _ | refine Fr.set ?_ (by omega) (by first | omega | (simp only [nxt_new, nxt_set]; omega)) _)) (by first | omega | (simp only [go_sem]; omega)) au (by omega) au ⟨.own (s.nxt + 1 + 1 + 1) 0 x.wins.length, .own (s.nxt + 1 + 1 + 1 + 1) 0 x.slts.length, rfl, .inr ⟨(s.nxt + 1 + 1 + 1), _, by simp, by omega, (by first | (exact au) | (simp only [List.map_set, List.map_append, List.map_cons, List.map_nil]; exact au))⟩, .inr ⟨(s.nxt + 1 + 1 + 1 + 1), _, by simp, by omega, (by first | (exact au) | (simp only [List.map_set, List.map_append, List.map_cons, List.map_nil]; exact au))⟩⟩
      · have hc := hc2
        refine rs (k := rg [2, 3, 4, 8, 10, 11, 12, 56, 83] (k := rc (ht := fun hc3 => ?_) (hf := fun hc3 => ?_)))
        · have hc := hc3
          refine rg [4, 8] (k := rB (k := ?_))
          have hw9 : wv = 2 := by have h := of_decide_eq_true hc3; omega
          subst hw9
          refine rp [4, 8] (k := ?_)
          refine hJb0 _ _ ⟨rfl, au, ?_⟩
          rw [hodd, show oddG t k x 2 wi si at_ n = ⟨t.frame, t.tens.set k (⟨x.unit, x.fns, n, x.wins, x.slts⟩ : Ten)⟩ by simp only [oddG, oddX, Int.reduceEq, reduceCtorEq, ↓reduceIte, List.append_nil]]
          exact odd_done (by repeat (first | exact F1 | refine Fr.new ?_ _ | refine Fr.set ?_ (by omega) (by first | omega | (simp only [nxt_new, nxt_set]; omega)) _)) (by first | omega | (simp only [go_sem]; omega)) au (by omega) au ⟨.own (s.nxt + 1 + 1 + 1) 0 x.wins.length, .own (s.nxt + 1 + 1 + 1 + 1) 0 x.slts.length, rfl, .inr ⟨(s.nxt + 1 + 1 + 1), _, by simp, by omega, (by first | (exact au) | (simp only [List.map_set, List.map_append, List.map_cons, List.map_nil]; exact au))⟩, .inr ⟨(s.nxt + 1 + 1 + 1 + 1), _, by simp, by omega, (by first | (exact au) | (simp only [List.map_set, List.map_append, List.map_cons, List.map_nil]; exact au))⟩⟩
        · have hc := hc3
          refine rs (k := rg [2, 3, 4, 8, 10, 11, 12, 56, 89] (k := rc (ht := fun hc4 => ?_) (hf := fun hc4 => ?_)))
          · have hc := hc4
            refine rg [4, 8] (k := rB (k := ?_))
            have hw9 : wv = 3 := by have h := of_decide_eq_true hc4; omega
            subst hw9
            refine rp [4, 8] (k := ?_)
            refine hJb0 _ _ ⟨rfl, au, ?_⟩
            rw [hodd, show oddG t k x 3 wi si at_ n = ⟨t.frame, t.tens.set k (⟨x.unit, IntKind.u32.wrap n, x.queue, x.wins, x.slts⟩ : Ten)⟩ by simp only [oddG, oddX, Int.reduceEq, reduceCtorEq, ↓reduceIte, List.append_nil]]
            exact odd_done (by repeat (first | exact F1 | refine Fr.new ?_ _ | refine Fr.set ?_ (by omega) (by first | omega | (simp only [nxt_new, nxt_set]; omega)) _)) (by first | omega | (simp only [go_sem]; omega)) au (by omega) au ⟨.own (s.nxt + 1 + 1 + 1) 0 x.wins.length, .own (s.nxt + 1 + 1 + 1 + 1) 0 x.slts.length, rfl, .inr ⟨(s.nxt + 1 + 1 + 1), _, by simp, by omega, (by first | (exact au) | (simp only [List.map_set, List.map_append, List.map_cons, List.map_nil]; exact au))⟩, .inr ⟨(s.nxt + 1 + 1 + 1 + 1), _, by simp, by omega, (by first | (exact au) | (simp only [List.map_set, List.map_append, List.map_cons, List.map_nil]; exact au))⟩⟩
          · have hc := hc4
            refine rs (k := rg [2, 3, 4, 8, 10, 11, 12, 56, 96] (k := rc (ht := fun hc5 => ?_) (hf := fun hc5 => ?_)))
            · have hc := hc5
              refine rr (k := ro (pre := [_, _, _, _, _, _, _]) (k := rO (k := ?_)))
              refine RunO.appendOwn au au au Try.td41 (by rw [Try.zp48]; rfl) (isEls_map (f := Slt.pv) (fun a => ⟨rfl, by rw [Try.cz48]; rfl⟩) [⟨n, 72⟩]) (by rw [Try.by48]; decide) (by rw [Try.by48]; simp; omega) (v := .own s1.nxt 0 (x.slts.length + 1)) (s' := (s1.set (s.nxt + 1 + 1 + 1 + 1) none).new (.row 48 (x.slts.map Slt.pv ++ [.agg [.int .i64 n, .int .i64 72]]))) (by unfold aAppendOwn; rw [bC]; simp only [ne_eq, List.cons_ne_nil, not_false_eq_true, List.length_map, Nat.le_refl, and_self, if_true, List.length_cons, List.length_nil, Nat.zero_add]; rw [List.take_of_length_le (by rw [List.length_map]; exact Nat.le_refl _)]; rfl) ?_
              refine rh [4, 8] (k := rB (k := ?_))
              have hw9 : wv = 4 := by have h := of_decide_eq_true hc5; omega
              subst hw9
              refine rp [4, 8] (k := ?_)
              refine hJb0 _ _ ⟨rfl, au, ?_⟩
              rw [hodd, show oddG t k x 4 wi si at_ n = ⟨t.frame, t.tens.set k (⟨x.unit, x.fns, x.queue, x.wins, x.slts ++ [⟨n, 72⟩]⟩ : Ten)⟩ by simp only [oddG, oddX, Int.reduceEq, reduceCtorEq, ↓reduceIte, List.append_nil]]
              exact odd_done (by repeat (first | exact F1 | refine Fr.new ?_ _ | refine Fr.set ?_ (by omega) (by first | omega | (simp only [nxt_new, nxt_set]; omega)) _)) (by first | omega | (simp only [go_sem]; omega)) au (by omega) au ⟨.own (s.nxt + 1 + 1 + 1) 0 x.wins.length, .own s1.nxt 0 (x.slts.length + 1), rfl, .inr ⟨(s.nxt + 1 + 1 + 1), _, by simp, by omega, (by first | (exact au) | (simp only [List.map_set, List.map_append, List.map_cons, List.map_nil]; exact au))⟩, .inr ⟨s1.nxt, _, by simp, by omega, (by first | (exact au) | (simp only [List.map_set, List.map_append, List.map_cons, List.map_nil]; exact au))⟩⟩
            · have hc := hc5
              refine rs (k := rg [2, 3, 4, 8, 10, 11, 12, 56, 109] (k := rc (ht := fun hc6 => ?_) (hf := fun hc6 => ?_)))
              · have hc := hc6
                have hb0 := ibits_and_le n 3 (by decide)
                have hb1 := ibits_and_le at_ 1023 (by decide)
                have hb2 := ibits_and_le n 511 (by decide)
                have hb3 := ibits_and_le at_ 31 (by decide)
                obtain ⟨g0, hg0⟩ : ∃ y, ibits .and .i64 n 3 = y := ⟨_, rfl⟩
                obtain ⟨g1, hg1⟩ : ∃ y, ibits .and .i64 at_ 1023 = y := ⟨_, rfl⟩
                obtain ⟨g2, hg2⟩ : ∃ y, ibits .and .i64 n 511 = y := ⟨_, rfl⟩
                obtain ⟨g4, hg4⟩ : ∃ y, ibits .and .i64 at_ 31 = y := ⟨_, rfl⟩
                have hb0 : 0 ≤ g0 ∧ g0 ≤ 3 := hg0 ▸ hb0
                have hb1 : 0 ≤ g1 ∧ g1 ≤ 1023 := hg1 ▸ hb1
                have hb2 : 0 ≤ g2 ∧ g2 ≤ 511 := hg2 ▸ hb2
                have hb3 : 0 ≤ g4 ∧ g4 ≤ 31 := hg4 ▸ hb3
                have hg3 : IntKind.i64.wrap (1 + g4) = 1 + g4 := wrap_i64 (by omega)
                have H := aj hg0 (aj hg1 (aj hg2 (aj hg4 (aj hg3 H))))
                refine rr (k := ro (pre := [_, _, _, _, _, _, _, _, _, _, _, _, _, _, _]) (k := rO (k := ?_)))
                refine RunO.appendOwn au au au Try.td40 (by rw [Try.zp45]; rfl) (isEls_map (f := Win.pv) (fun a => ⟨rfl, by rw [Try.cz45]; rfl⟩) [⟨g0, g1, g2, 1 + g4⟩]) (by rw [Try.by45]; decide) (by rw [Try.by45]; simp; omega) (v := .own s1.nxt 0 (x.wins.length + 1)) (s' := (s1.set (s.nxt + 1 + 1 + 1) none).new (.row 45 (x.wins.map Win.pv ++ [.agg [.int .i64 g0, .int .i64 g1, .int .i64 g2, .int .i64 (1 + g4)]]))) (by unfold aAppendOwn; rw [bB]; simp only [ne_eq, List.cons_ne_nil, not_false_eq_true, List.length_map, Nat.le_refl, and_self, if_true, List.length_cons, List.length_nil, Nat.zero_add]; rw [List.take_of_length_le (by rw [List.length_map]; exact Nat.le_refl _)]; rfl) ?_
                refine rh [4, 8] (k := rB (k := ?_))
                have hw9 : wv = 5 := by have h := of_decide_eq_true hc6; omega
                subst hw9
                refine rp [4, 8] (k := ?_)
                refine hJb0 _ _ ⟨rfl, au, ?_⟩
                rw [hodd, show oddG t k x 5 wi si at_ n = ⟨t.frame, t.tens.set k (⟨x.unit, x.fns, x.queue, x.wins ++ [⟨g0, g1, g2, 1 + g4⟩], x.slts⟩ : Ten)⟩ by simp only [oddG, oddX, Int.reduceEq, reduceCtorEq, ↓reduceIte, List.append_nil, hg0, hg1, hg2, hg4]]
                exact odd_done (by repeat (first | exact F1 | refine Fr.new ?_ _ | refine Fr.set ?_ (by omega) (by first | omega | (simp only [nxt_new, nxt_set]; omega)) _)) (by first | omega | (simp only [go_sem]; omega)) au (by omega) au ⟨.own s1.nxt 0 (x.wins.length + 1), .own (s.nxt + 1 + 1 + 1 + 1) 0 x.slts.length, rfl, .inr ⟨s1.nxt, _, by simp, by omega, (by first | (exact au) | (simp only [List.map_set, List.map_append, List.map_cons, List.map_nil]; exact au))⟩, .inr ⟨(s.nxt + 1 + 1 + 1 + 1), _, by simp, by omega, (by first | (exact au) | (simp only [List.map_set, List.map_append, List.map_cons, List.map_nil]; exact au))⟩⟩
              · have hc := hc6
                refine rs (k := rg [3, 4, 8, 10, 11, 12, 56, 130] (k := rc (ht := fun hc7 => ?_) (hf := fun hc7 => ?_)))
                · have hc := hc7
                  refine rs (k := rg [3, 4, 8, 10, 11, 138] (k := rc (ht := fun hc8 => ?_) (hf := fun hc8 => ?_)))
                  · have hc := hc8
                    have hwl2 : wi < x.wins.length := by have := of_decide_eq_true hc; omega
                    have hwi1 : ((wi : Int) < (x.wins.length : Int)) = True := eq_true (by omega)
                    obtain ⟨w, hwe⟩ : ∃ z_, x.wins[wi]'hwl2 = z_ := ⟨_, rfl⟩
                    have hxw : (x.wins.map Win.pv)[wi]? = some (.agg [.int .i64 (w).space, .int .i64 (w).virt, .int .i64 (w).phys, .int .i64 (w).cnt]) := by rw [map_get hwl2, hwe]; rfl
                    have H := aj hwi1 (aj hxw H)
                    refine rg [4, 8] (k := rB (k := ?_))
                    have hw9 : wv = 6 := by have h := of_decide_eq_true hc7; omega
                    subst hw9
                    refine rp [4, 8] (k := ?_)
                    refine hJb0 _ _ ⟨rfl, au, ?_⟩
                    rw [hodd, show oddG t k x 6 wi si at_ n = ⟨t.frame, t.tens.set k (⟨x.unit, x.fns, x.queue, x.wins.set wi ⟨w.space, w.virt, n, w.cnt⟩, x.slts⟩ : Ten)⟩ by simp only [oddG, oddX, Int.reduceEq, reduceCtorEq, ↓reduceIte, List.append_nil, modF_lt hwl2 hwe]]
                    exact odd_done (by repeat (first | exact F1 | refine Fr.new ?_ _ | refine Fr.set ?_ (by omega) (by first | omega | (simp only [nxt_new, nxt_set]; omega)) _)) (by first | omega | (simp only [go_sem]; omega)) au (by omega) au ⟨.own (s.nxt + 1 + 1 + 1) 0 x.wins.length, .own (s.nxt + 1 + 1 + 1 + 1) 0 x.slts.length, rfl, .inr ⟨(s.nxt + 1 + 1 + 1), _, by simp, by omega, (by first | (exact au) | (simp only [List.map_set, List.map_append, List.map_cons, List.map_nil]; exact au))⟩, .inr ⟨(s.nxt + 1 + 1 + 1 + 1), _, by simp, by omega, (by first | (exact au) | (simp only [List.map_set, List.map_append, List.map_cons, List.map_nil]; exact au))⟩⟩
                  · have hc := hc8
                    refine rk (k := rB (k := ?_))
                    have hw9 : wv = 6 := by have h := of_decide_eq_true hc7; omega
                    subst hw9
                    refine rp [4, 8] (k := ?_)
                    refine hJb0 _ _ ⟨rfl, au, ?_⟩
                    rw [hodd, show oddG t k x 6 wi si at_ n = ⟨t.frame, t.tens.set k (⟨x.unit, x.fns, x.queue, x.wins, x.slts⟩ : Ten)⟩ by simp only [oddG, oddX, Int.reduceEq, reduceCtorEq, ↓reduceIte, List.append_nil, modF_ge (show x.wins.length ≤ wi by have := of_decide_eq_false hc8; first | omega | simp_all)]]
                    exact odd_done (by repeat (first | exact F1 | refine Fr.new ?_ _ | refine Fr.set ?_ (by omega) (by first | omega | (simp only [nxt_new, nxt_set]; omega)) _)) (by first | omega | (simp only [go_sem]; omega)) au (by omega) au ⟨.own (s.nxt + 1 + 1 + 1) 0 x.wins.length, .own (s.nxt + 1 + 1 + 1 + 1) 0 x.slts.length, rfl, .inr ⟨(s.nxt + 1 + 1 + 1), _, by simp, by omega, (by first | (exact au) | (simp only [List.map_set, List.map_append, List.map_cons, List.map_nil]; exact au))⟩, .inr ⟨(s.nxt + 1 + 1 + 1 + 1), _, by simp, by omega, (by first | (exact au) | (simp only [List.map_set, List.map_append, List.map_cons, List.map_nil]; exact au))⟩⟩
                · have hc := hc7
                  refine rs (k := rg [3, 4, 8, 10, 11, 12, 56, 147] (k := rc (ht := fun hc9 => ?_) (hf := fun hc9 => ?_)))
                  · have hc := hc9
                    refine rs (k := rg [3, 4, 8, 10, 11, 155] (k := rc (ht := fun hc10 => ?_) (hf := fun hc10 => ?_)))
                    · have hc := hc10
                      have hwl2 : wi < x.wins.length := by have := of_decide_eq_true hc; omega
                      have hwi1 : ((wi : Int) < (x.wins.length : Int)) = True := eq_true (by omega)
                      obtain ⟨w, hwe⟩ : ∃ z_, x.wins[wi]'hwl2 = z_ := ⟨_, rfl⟩
                      have hxw : (x.wins.map Win.pv)[wi]? = some (.agg [.int .i64 (w).space, .int .i64 (w).virt, .int .i64 (w).phys, .int .i64 (w).cnt]) := by rw [map_get hwl2, hwe]; rfl
                      have H := aj hwi1 (aj hxw H)
                      refine rg [4, 8] (k := rB (k := ?_))
                      have hw9 : wv = 7 := by have h := of_decide_eq_true hc9; omega
                      subst hw9
                      refine rp [4, 8] (k := ?_)
                      refine hJb0 _ _ ⟨rfl, au, ?_⟩
                      rw [hodd, show oddG t k x 7 wi si at_ n = ⟨t.frame, t.tens.set k (⟨x.unit, x.fns, x.queue, x.wins.set wi ⟨w.space, n, w.phys, w.cnt⟩, x.slts⟩ : Ten)⟩ by simp only [oddG, oddX, Int.reduceEq, reduceCtorEq, ↓reduceIte, List.append_nil, modF_lt hwl2 hwe]]
                      exact odd_done (by repeat (first | exact F1 | refine Fr.new ?_ _ | refine Fr.set ?_ (by omega) (by first | omega | (simp only [nxt_new, nxt_set]; omega)) _)) (by first | omega | (simp only [go_sem]; omega)) au (by omega) au ⟨.own (s.nxt + 1 + 1 + 1) 0 x.wins.length, .own (s.nxt + 1 + 1 + 1 + 1) 0 x.slts.length, rfl, .inr ⟨(s.nxt + 1 + 1 + 1), _, by simp, by omega, (by first | (exact au) | (simp only [List.map_set, List.map_append, List.map_cons, List.map_nil]; exact au))⟩, .inr ⟨(s.nxt + 1 + 1 + 1 + 1), _, by simp, by omega, (by first | (exact au) | (simp only [List.map_set, List.map_append, List.map_cons, List.map_nil]; exact au))⟩⟩
                    · have hc := hc10
                      refine rk (k := rB (k := ?_))
                      have hw9 : wv = 7 := by have h := of_decide_eq_true hc9; omega
                      subst hw9
                      refine rp [4, 8] (k := ?_)
                      refine hJb0 _ _ ⟨rfl, au, ?_⟩
                      rw [hodd, show oddG t k x 7 wi si at_ n = ⟨t.frame, t.tens.set k (⟨x.unit, x.fns, x.queue, x.wins, x.slts⟩ : Ten)⟩ by simp only [oddG, oddX, Int.reduceEq, reduceCtorEq, ↓reduceIte, List.append_nil, modF_ge (show x.wins.length ≤ wi by have := of_decide_eq_false hc10; first | omega | simp_all)]]
                      exact odd_done (by repeat (first | exact F1 | refine Fr.new ?_ _ | refine Fr.set ?_ (by omega) (by first | omega | (simp only [nxt_new, nxt_set]; omega)) _)) (by first | omega | (simp only [go_sem]; omega)) au (by omega) au ⟨.own (s.nxt + 1 + 1 + 1) 0 x.wins.length, .own (s.nxt + 1 + 1 + 1 + 1) 0 x.slts.length, rfl, .inr ⟨(s.nxt + 1 + 1 + 1), _, by simp, by omega, (by first | (exact au) | (simp only [List.map_set, List.map_append, List.map_cons, List.map_nil]; exact au))⟩, .inr ⟨(s.nxt + 1 + 1 + 1 + 1), _, by simp, by omega, (by first | (exact au) | (simp only [List.map_set, List.map_append, List.map_cons, List.map_nil]; exact au))⟩⟩
                  · have hc := hc9
                    refine rs (k := rg [3, 4, 8, 10, 11, 12, 56, 164] (k := rc (ht := fun hc11 => ?_) (hf := fun hc11 => ?_)))
                    · have hc := hc11
                      refine rs (k := rg [3, 4, 8, 10, 11, 172] (k := rc (ht := fun hc12 => ?_) (hf := fun hc12 => ?_)))
                      · have hc := hc12
                        have hwl2 : wi < x.wins.length := by have := of_decide_eq_true hc; omega
                        have hwi1 : ((wi : Int) < (x.wins.length : Int)) = True := eq_true (by omega)
                        obtain ⟨w, hwe⟩ : ∃ z_, x.wins[wi]'hwl2 = z_ := ⟨_, rfl⟩
                        have hxw : (x.wins.map Win.pv)[wi]? = some (.agg [.int .i64 (w).space, .int .i64 (w).virt, .int .i64 (w).phys, .int .i64 (w).cnt]) := by rw [map_get hwl2, hwe]; rfl
                        have H := aj hwi1 (aj hxw H)
                        refine rg [4, 8] (k := rB (k := ?_))
                        have hw9 : wv = 8 := by have h := of_decide_eq_true hc11; omega
                        subst hw9
                        refine rp [4, 8] (k := ?_)
                        refine hJb0 _ _ ⟨rfl, au, ?_⟩
                        rw [hodd, show oddG t k x 8 wi si at_ n = ⟨t.frame, t.tens.set k (⟨x.unit, x.fns, x.queue, x.wins.set wi ⟨w.space, w.virt, w.phys, n⟩, x.slts⟩ : Ten)⟩ by simp only [oddG, oddX, Int.reduceEq, reduceCtorEq, ↓reduceIte, List.append_nil, modF_lt hwl2 hwe]]
                        exact odd_done (by repeat (first | exact F1 | refine Fr.new ?_ _ | refine Fr.set ?_ (by omega) (by first | omega | (simp only [nxt_new, nxt_set]; omega)) _)) (by first | omega | (simp only [go_sem]; omega)) au (by omega) au ⟨.own (s.nxt + 1 + 1 + 1) 0 x.wins.length, .own (s.nxt + 1 + 1 + 1 + 1) 0 x.slts.length, rfl, .inr ⟨(s.nxt + 1 + 1 + 1), _, by simp, by omega, (by first | (exact au) | (simp only [List.map_set, List.map_append, List.map_cons, List.map_nil]; exact au))⟩, .inr ⟨(s.nxt + 1 + 1 + 1 + 1), _, by simp, by omega, (by first | (exact au) | (simp only [List.map_set, List.map_append, List.map_cons, List.map_nil]; exact au))⟩⟩
                      · have hc := hc12
                        refine rk (k := rB (k := ?_))
                        have hw9 : wv = 8 := by have h := of_decide_eq_true hc11; omega
                        subst hw9
                        refine rp [4, 8] (k := ?_)
                        refine hJb0 _ _ ⟨rfl, au, ?_⟩
                        rw [hodd, show oddG t k x 8 wi si at_ n = ⟨t.frame, t.tens.set k (⟨x.unit, x.fns, x.queue, x.wins, x.slts⟩ : Ten)⟩ by simp only [oddG, oddX, Int.reduceEq, reduceCtorEq, ↓reduceIte, List.append_nil, modF_ge (show x.wins.length ≤ wi by have := of_decide_eq_false hc12; first | omega | simp_all)]]
                        exact odd_done (by repeat (first | exact F1 | refine Fr.new ?_ _ | refine Fr.set ?_ (by omega) (by first | omega | (simp only [nxt_new, nxt_set]; omega)) _)) (by first | omega | (simp only [go_sem]; omega)) au (by omega) au ⟨.own (s.nxt + 1 + 1 + 1) 0 x.wins.length, .own (s.nxt + 1 + 1 + 1 + 1) 0 x.slts.length, rfl, .inr ⟨(s.nxt + 1 + 1 + 1), _, by simp, by omega, (by first | (exact au) | (simp only [List.map_set, List.map_append, List.map_cons, List.map_nil]; exact au))⟩, .inr ⟨(s.nxt + 1 + 1 + 1 + 1), _, by simp, by omega, (by first | (exact au) | (simp only [List.map_set, List.map_append, List.map_cons, List.map_nil]; exact au))⟩⟩
                    · have hc := hc11
                      refine rs (k := rg [3, 4, 8, 10, 11, 12, 56, 181] (k := rc (ht := fun hc13 => ?_) (hf := fun hc13 => ?_)))
                      · have hc := hc13
                        refine rs (k := rg [3, 4, 8, 10, 12, 189] (k := rc (ht := fun hc14 => ?_) (hf := fun hc14 => ?_)))
                        · have hc := hc14
                          have hsl2 : si < x.slts.length := by have := of_decide_eq_true hc; omega
                          have hsi1 : ((si : Int) < (x.slts.length : Int)) = True := eq_true (by omega)
                          obtain ⟨a, hae⟩ : ∃ z_, x.slts[si]'hsl2 = z_ := ⟨_, rfl⟩
                          have hxa : (x.slts.map Slt.pv)[si]? = some (.agg [.int .i64 (a).pos, .int .i64 (a).len]) := by rw [map_get hsl2, hae]; rfl
                          have H := aj hsi1 (aj hxa H)
                          refine rg [4, 8] (k := rB (k := ?_))
                          have hw9 : wv = 9 := by have h := of_decide_eq_true hc13; omega
                          subst hw9
                          refine rp [4, 8] (k := ?_)
                          refine hJb0 _ _ ⟨rfl, au, ?_⟩
                          rw [hodd, show oddG t k x 9 wi si at_ n = ⟨t.frame, t.tens.set k (⟨x.unit, x.fns, x.queue, x.wins, x.slts.set si ⟨n, a.len⟩⟩ : Ten)⟩ by simp only [oddG, oddX, Int.reduceEq, reduceCtorEq, ↓reduceIte, List.append_nil, modF_lt hsl2 hae]]
                          exact odd_done (by repeat (first | exact F1 | refine Fr.new ?_ _ | refine Fr.set ?_ (by omega) (by first | omega | (simp only [nxt_new, nxt_set]; omega)) _)) (by first | omega | (simp only [go_sem]; omega)) au (by omega) au ⟨.own (s.nxt + 1 + 1 + 1) 0 x.wins.length, .own (s.nxt + 1 + 1 + 1 + 1) 0 x.slts.length, rfl, .inr ⟨(s.nxt + 1 + 1 + 1), _, by simp, by omega, (by first | (exact au) | (simp only [List.map_set, List.map_append, List.map_cons, List.map_nil]; exact au))⟩, .inr ⟨(s.nxt + 1 + 1 + 1 + 1), _, by simp, by omega, (by first | (exact au) | (simp only [List.map_set, List.map_append, List.map_cons, List.map_nil]; exact au))⟩⟩
                        · have hc := hc14
                          refine rk (k := rB (k := ?_))
                          have hw9 : wv = 9 := by have h := of_decide_eq_true hc13; omega
                          subst hw9
                          refine rp [4, 8] (k := ?_)
                          refine hJb0 _ _ ⟨rfl, au, ?_⟩
                          rw [hodd, show oddG t k x 9 wi si at_ n = ⟨t.frame, t.tens.set k (⟨x.unit, x.fns, x.queue, x.wins, x.slts⟩ : Ten)⟩ by simp only [oddG, oddX, Int.reduceEq, reduceCtorEq, ↓reduceIte, List.append_nil, modF_ge (show x.slts.length ≤ si by have := of_decide_eq_false hc14; first | omega | simp_all)]]
                          exact odd_done (by repeat (first | exact F1 | refine Fr.new ?_ _ | refine Fr.set ?_ (by omega) (by first | omega | (simp only [nxt_new, nxt_set]; omega)) _)) (by first | omega | (simp only [go_sem]; omega)) au (by omega) au ⟨.own (s.nxt + 1 + 1 + 1) 0 x.wins.length, .own (s.nxt + 1 + 1 + 1 + 1) 0 x.slts.length, rfl, .inr ⟨(s.nxt + 1 + 1 + 1), _, by simp, by omega, (by first | (exact au) | (simp only [List.map_set, List.map_append, List.map_cons, List.map_nil]; exact au))⟩, .inr ⟨(s.nxt + 1 + 1 + 1 + 1), _, by simp, by omega, (by first | (exact au) | (simp only [List.map_set, List.map_append, List.map_cons, List.map_nil]; exact au))⟩⟩
                      · have hc := hc13
                        refine rs (k := rg [3, 4, 8, 10, 11, 12, 56, 198] (k := rc (ht := fun hc15 => ?_) (hf := fun hc15 => ?_)))
                        · have hc := hc15
                          refine rs (k := rg [3, 4, 8, 10, 12, 206] (k := rc (ht := fun hc16 => ?_) (hf := fun hc16 => ?_)))
                          · have hc := hc16
                            have hsl2 : si < x.slts.length := by have := of_decide_eq_true hc; omega
                            have hsi1 : ((si : Int) < (x.slts.length : Int)) = True := eq_true (by omega)
                            obtain ⟨a, hae⟩ : ∃ z_, x.slts[si]'hsl2 = z_ := ⟨_, rfl⟩
                            have hxa : (x.slts.map Slt.pv)[si]? = some (.agg [.int .i64 (a).pos, .int .i64 (a).len]) := by rw [map_get hsl2, hae]; rfl
                            have H := aj hsi1 (aj hxa H)
                            refine rg [4, 8] (k := rB (k := ?_))
                            have hw9 : wv = 10 := by have h := of_decide_eq_true hc15; omega
                            subst hw9
                            refine rp [4, 8] (k := ?_)
                            refine hJb0 _ _ ⟨rfl, au, ?_⟩
                            rw [hodd, show oddG t k x 10 wi si at_ n = ⟨t.frame, t.tens.set k (⟨x.unit, x.fns, x.queue, x.wins, x.slts.set si ⟨a.pos, n⟩⟩ : Ten)⟩ by simp only [oddG, oddX, Int.reduceEq, reduceCtorEq, ↓reduceIte, List.append_nil, modF_lt hsl2 hae]]
                            exact odd_done (by repeat (first | exact F1 | refine Fr.new ?_ _ | refine Fr.set ?_ (by omega) (by first | omega | (simp only [nxt_new, nxt_set]; omega)) _)) (by first | omega | (simp only [go_sem]; omega)) au (by omega) au ⟨.own (s.nxt + 1 + 1 + 1) 0 x.wins.length, .own (s.nxt + 1 + 1 + 1 + 1) 0 x.slts.length, rfl, .inr ⟨(s.nxt + 1 + 1 + 1), _, by simp, by omega, (by first | (exact au) | (simp only [List.map_set, List.map_append, List.map_cons, List.map_nil]; exact au))⟩, .inr ⟨(s.nxt + 1 + 1 + 1 + 1), _, by simp, by omega, (by first | (exact au) | (simp only [List.map_set, List.map_append, List.map_cons, List.map_nil]; exact au))⟩⟩
                          · have hc := hc16
                            refine rk (k := rB (k := ?_))
                            have hw9 : wv = 10 := by have h := of_decide_eq_true hc15; omega
                            subst hw9
                            refine rp [4, 8] (k := ?_)
                            refine hJb0 _ _ ⟨rfl, au, ?_⟩
                            rw [hodd, show oddG t k x 10 wi si at_ n = ⟨t.frame, t.tens.set k (⟨x.unit, x.fns, x.queue, x.wins, x.slts⟩ : Ten)⟩ by simp only [oddG, oddX, Int.reduceEq, reduceCtorEq, ↓reduceIte, List.append_nil, modF_ge (show x.slts.length ≤ si by have := of_decide_eq_false hc16; first | omega | simp_all)]]
                            exact odd_done (by repeat (first | exact F1 | refine Fr.new ?_ _ | refine Fr.set ?_ (by omega) (by first | omega | (simp only [nxt_new, nxt_set]; omega)) _)) (by first | omega | (simp only [go_sem]; omega)) au (by omega) au ⟨.own (s.nxt + 1 + 1 + 1) 0 x.wins.length, .own (s.nxt + 1 + 1 + 1 + 1) 0 x.slts.length, rfl, .inr ⟨(s.nxt + 1 + 1 + 1), _, by simp, by omega, (by first | (exact au) | (simp only [List.map_set, List.map_append, List.map_cons, List.map_nil]; exact au))⟩, .inr ⟨(s.nxt + 1 + 1 + 1 + 1), _, by simp, by omega, (by first | (exact au) | (simp only [List.map_set, List.map_append, List.map_cons, List.map_nil]; exact au))⟩⟩
                        · have hc := hc15
                          refine rs (k := rg [3, 4, 8, 10, 11, 56, 215] (k := rc (ht := fun hc17 => ?_) (hf := fun hc17 => ?_)))
                          · have hc := hc17
                            refine Run.drawCut 6 [] Try.mixed (by kernel_rfl) (by kernel_rfl) ?_
                            refine DetC.all au ?_
                            refine RunO.appendOwn au au au Try.td22 (by rw [Try.zp43]; rfl) (fun p hp => by rw [List.mem_singleton.1 hp]; exact ⟨rfl, by rw [Try.cz43]; rfl⟩) (by rw [Try.by43]; decide) (by rw [Try.by43]; simp; omega) (v := .own s1.nxt 0 (t.tens.length + 1)) (s' := (s1.set (s.nxt + 1 + 1) none).new (.row 43 ((t.tens.map Ten.pv).set k (.agg [.int .i64 x.unit, .int .u32 x.fns, .int .i64 x.queue, .own (s.nxt + 1 + 1 + 1) 0 x.wins.length, .own (s.nxt + 1 + 1 + 1 + 1) 0 x.slts.length]) ++ [.agg [.int .i64 x.unit, .int .u32 x.fns, .int .i64 x.queue, .own (s.nxt + 1 + 1 + 1) 0 x.wins.length, .own (s.nxt + 1 + 1 + 1 + 1) 0 x.slts.length]]))) (by unfold aAppendOwn; rw [bA]; simp only [ne_eq, List.cons_ne_nil, not_false_eq_true, List.length_set, List.length_map, Nat.le_refl, and_self, if_true, List.length_cons, List.length_nil, Nat.zero_add]; rw [List.take_of_length_le (by simp)]) ?_
                            refine rh [4, 8] (k := rB (k := ?_))
                            have hw9 : wv = 11 := by have h := of_decide_eq_true hc17; omega
                            subst hw9
                            refine rp [4, 8] (k := ?_)
                            refine hJb0 _ _ ⟨rfl, au, ?_⟩
                            rw [hodd, show oddG t k x 11 wi si at_ n = ⟨t.frame, t.tens.set k (⟨x.unit, x.fns, x.queue, x.wins, x.slts⟩ : Ten) ++ [(⟨x.unit, x.fns, x.queue, x.wins, x.slts⟩ : Ten)]⟩ by simp only [oddG, oddX, Int.reduceEq, reduceCtorEq, ↓reduceIte, List.append_nil]]
                            exact odd_app (by repeat (first | exact F1 | refine Fr.new ?_ _ | refine Fr.set ?_ (by omega) (by first | omega | (simp only [nxt_new, nxt_set]; omega)) _)) (by first | omega | (simp only [go_sem]; omega)) au (by omega) au ⟨.own (s.nxt + 1 + 1 + 1) 0 x.wins.length, .own (s.nxt + 1 + 1 + 1 + 1) 0 x.slts.length, rfl, .inr ⟨(s.nxt + 1 + 1 + 1), _, by simp, by omega, (by first | (exact au) | (simp only [List.map_set, List.map_append, List.map_cons, List.map_nil]; exact au))⟩, .inr ⟨(s.nxt + 1 + 1 + 1 + 1), _, by simp, by omega, (by first | (exact au) | (simp only [List.map_set, List.map_append, List.map_cons, List.map_nil]; exact au))⟩⟩
                          · have hc := hc17
                            refine rs (k := rg [3, 4, 8, 10, 11, 225] (k := rc (ht := fun hc18 => ?_) (hf := fun hc18 => ?_)))
                            · have hc := hc18
                              refine rg [4, 8] (k := rB (k := ?_))
                              have hw9 : wv = 12 := by have h := of_decide_eq_true hc18; omega
                              subst hw9
                              refine rp [4, 8] (k := ?_)
                              refine hJb0 _ _ ⟨rfl, au, ?_⟩
                              rw [hodd, show oddG t k x 12 wi si at_ n = ⟨t.frame, t.tens.set k (⟨x.unit, x.fns, x.queue, x.wins, []⟩ : Ten)⟩ by simp only [oddG, oddX, Int.reduceEq, reduceCtorEq, ↓reduceIte, List.append_nil]]
                              exact odd_done (by repeat (first | exact F1 | refine Fr.new ?_ _ | refine Fr.set ?_ (by omega) (by first | omega | (simp only [nxt_new, nxt_set]; omega)) _)) (by first | omega | (simp only [go_sem]; omega)) au (by omega) au ⟨.own (s.nxt + 1 + 1 + 1) 0 x.wins.length, .sl .nil [], rfl, .inr ⟨(s.nxt + 1 + 1 + 1), _, by simp, by omega, (by first | (exact au) | (simp only [List.map_set, List.map_append, List.map_cons, List.map_nil]; exact au))⟩, .inl ⟨.nil, rfl⟩⟩
                            · have hc := hc18
                              refine rs (k := rg [3, 4, 8, 10, 11, 63] (k := rc (ht := fun hc19 => ?_) (hf := fun hc19 => ?_)))
                              · have hc := hc19
                                have hwl2 : wi < x.wins.length := by have := of_decide_eq_true hc; omega
                                have hwi1 : ((wi : Int) < (x.wins.length : Int)) = True := eq_true (by omega)
                                obtain ⟨w, hwe⟩ : ∃ z_, x.wins[wi]'hwl2 = z_ := ⟨_, rfl⟩
                                have hxw : (x.wins.map Win.pv)[wi]? = some (.agg [.int .i64 (w).space, .int .i64 (w).virt, .int .i64 (w).phys, .int .i64 (w).cnt]) := by rw [map_get hwl2, hwe]; rfl
                                have hb7 := ibits_and_le n 7 (by decide)
                                obtain ⟨g7, hg7⟩ : ∃ y, ibits .and .i64 n 7 = y := ⟨_, rfl⟩
                                have hb7 : 0 ≤ g7 ∧ g7 ≤ 7 := hg7 ▸ hb7
                                have H := aj hwi1 (aj hxw (aj hg7 H))
                                refine rg [4, 8] (k := rB (k := ?_))
                                have hw9 : wv = 13 := by have := of_decide_eq_false hc1; have := of_decide_eq_false hc2; have := of_decide_eq_false hc3; have := of_decide_eq_false hc4; have := of_decide_eq_false hc5; have := of_decide_eq_false hc6; have := of_decide_eq_false hc7; have := of_decide_eq_false hc9; have := of_decide_eq_false hc11; have := of_decide_eq_false hc13; have := of_decide_eq_false hc15; have := of_decide_eq_false hc17; have := of_decide_eq_false hc18; omega
                                subst hw9
                                refine rp [4, 8] (k := ?_)
                                refine hJb0 _ _ ⟨rfl, au, ?_⟩
                                rw [hodd, show oddG t k x 13 wi si at_ n = ⟨t.frame, t.tens.set k (⟨x.unit, x.fns, x.queue, x.wins.set wi ⟨g7, w.virt, w.phys, w.cnt⟩, x.slts⟩ : Ten)⟩ by simp only [oddG, oddX, Int.reduceEq, reduceCtorEq, ↓reduceIte, List.append_nil, modF_lt hwl2 hwe, hg7]]
                                exact odd_done (by repeat (first | exact F1 | refine Fr.new ?_ _ | refine Fr.set ?_ (by omega) (by first | omega | (simp only [nxt_new, nxt_set]; omega)) _)) (by first | omega | (simp only [go_sem]; omega)) au (by omega) au ⟨.own (s.nxt + 1 + 1 + 1) 0 x.wins.length, .own (s.nxt + 1 + 1 + 1 + 1) 0 x.slts.length, rfl, .inr ⟨(s.nxt + 1 + 1 + 1), _, by simp, by omega, (by first | (exact au) | (simp only [List.map_set, List.map_append, List.map_cons, List.map_nil]; exact au))⟩, .inr ⟨(s.nxt + 1 + 1 + 1 + 1), _, by simp, by omega, (by first | (exact au) | (simp only [List.map_set, List.map_append, List.map_cons, List.map_nil]; exact au))⟩⟩
                              · have hc := hc19
                                refine rk (k := rB (k := ?_))
                                have hw9 : wv = 13 := by have := of_decide_eq_false hc1; have := of_decide_eq_false hc2; have := of_decide_eq_false hc3; have := of_decide_eq_false hc4; have := of_decide_eq_false hc5; have := of_decide_eq_false hc6; have := of_decide_eq_false hc7; have := of_decide_eq_false hc9; have := of_decide_eq_false hc11; have := of_decide_eq_false hc13; have := of_decide_eq_false hc15; have := of_decide_eq_false hc17; have := of_decide_eq_false hc18; omega
                                subst hw9
                                refine rp [4, 8] (k := ?_)
                                refine hJb0 _ _ ⟨rfl, au, ?_⟩
                                rw [hodd, show oddG t k x 13 wi si at_ n = ⟨t.frame, t.tens.set k (⟨x.unit, x.fns, x.queue, x.wins, x.slts⟩ : Ten)⟩ by simp only [oddG, oddX, Int.reduceEq, reduceCtorEq, ↓reduceIte, List.append_nil, modF_ge (show x.wins.length ≤ wi by have := of_decide_eq_false hc19; first | omega | simp_all)]]
                                exact odd_done (by repeat (first | exact F1 | refine Fr.new ?_ _ | refine Fr.set ?_ (by omega) (by first | omega | (simp only [nxt_new, nxt_set]; omega)) _)) (by first | omega | (simp only [go_sem]; omega)) au (by omega) au ⟨.own (s.nxt + 1 + 1 + 1) 0 x.wins.length, .own (s.nxt + 1 + 1 + 1 + 1) 0 x.slts.length, rfl, .inr ⟨(s.nxt + 1 + 1 + 1), _, by simp, by omega, (by first | (exact au) | (simp only [List.map_set, List.map_append, List.map_cons, List.map_nil]; exact au))⟩, .inr ⟨(s.nxt + 1 + 1 + 1 + 1), _, by simp, by omega, (by first | (exact au) | (simp only [List.map_set, List.map_append, List.map_cons, List.map_nil]; exact au))⟩⟩
set_option maxRecDepth 100000 in
theorem odd_wn {t : Tab} {m : Nat} (hm : m ≤ 1000) (ht : t.few m) {what at_ n : Int} (hwI : I64 what) (haI : I64 at_) (hnI : I64 n) {k : Nat} (hkw : withinI at_ 0 (t.tens.length - 1) = k) (hkl : k < t.tens.length) {x : Ten} (hxe : t.tens[k] = x) (hwe : x.wins ≠ []) (hse : x.slts = []) {s : St} : ACalls Try.prog 11 [t.pv, .int .i64 what, .int .i64 at_, .int .i64 n] s (fun r s' => r = (oddF t what at_ n).pv ∧ s' = s) := by
  refine go Try.func11 (k := fun hwf H => ?_)
  have hnt := ht.nt
  have hxm : x ∈ t.tens := by rw [← hxe]; exact List.getElem_mem _
  have hnw := ht.nw x hxm
  have hns := ht.ns x hxm
  have hte : t.tens ≠ [] := fun h => by rw [h] at hkl; simp at hkl
  have hxx : (t.tens.map Ten.pv)[k]? = some (.agg [.int .i64 (x).unit, .int .u32 (x).fns, .int .i64 (x).queue, .sl .unk ((x).wins.map Win.pv), .sl .unk ((x).slts.map Slt.pv)]) := by rw [map_get hkl, hxe]; rfl
  have hgs : ∀ X, ((t.tens.map Ten.pv).set k X)[k]? = some X := fun X => by rw [List.getElem?_set]; simp [hkl]
  have hwl : IntKind.i64.wrap ((t.tens.length : Int) - 1) = (t.tens.length : Int) - 1 := wrap_i64 (by omega)
  have htl0 : ((t.tens.length : Int) = 0) = False := eq_false (by omega)
  have hk2 : ((k : Int) < (t.tens.length : Int)) = True := eq_true (by omega)
  have H := aj hgs (aj hwl (aj hkw (aj hk2 (aj htl0 (aj hse H)))))
  refine rs (k := rg [1, 2, 3, 4, 8] (k := rs (k := rr (k := rO (k := ro (pre := [_, _]) (k := ?_))))))
  refine RunO.appendFirst au au au Try.td22 (by rw [Try.zp43]; rfl) (isEls_none _ _) (isEls_map (f := Ten.pv) (fun a => ⟨rfl, by rw [Try.cz43]; rfl⟩) _) (by rw [Try.by43]; decide) (by rw [Try.by43]; simp; omega) (by simp only [aAppendFirst, List.map_eq_nil_iff, ne_eq, hte, not_false_eq_true, if_true, List.length_nil, Nat.zero_add, List.length_map, List.nil_append, go_sem]; rfl) ?_
  refine rh [1, 2, 3, 4, 8] (k := rs (k := rs (k := rg [1, 2, 3, 4, 8, 21] (k := rc (ht := fun hc0 => ?_) (hf := fun hc0 => ?_)))))
  · cases hc0
  · have hc := hc0
    refine rk (k := rs (k := rr (k := ro (pre := [_, _, _, _, _]) (k := rC (h := within_ (lo := 0) (hi := (t.tens.length : Int) - 1) (by decide) (by omega) (by omega)) (k := rh [1, 2, 3, 4, 8, 9] (k := rs (k := rg [1, 2, 3, 4, 8, 10] (k := rs (k := ?_)))))))))
    have H := aj hxx H
    refine rr (k := ro (pre := [_]) (k := rO (k := ro (pre := [_, _, _, _]) (k := ?_))))
    refine RunO.appendFirst au au au Try.td40 (by rw [Try.zp45]; rfl) (isEls_none _ _) (isEls_map (f := Win.pv) (fun a => ⟨rfl, by rw [Try.cz45]; rfl⟩) _) (by rw [Try.by45]; decide) (by rw [Try.by45]; simp; omega) (by simp only [aAppendFirst, List.map_eq_nil_iff, ne_eq, hwe, not_false_eq_true, if_true, List.length_nil, Nat.zero_add, List.length_map, List.nil_append, go_sem]; rfl) ?_
    refine rh [1, 2, 3, 4, 8, 10] (k := rs (k := rr (k := ro (pre := [_]) (k := rO (k := ro (pre := [_, _, _, _]) (k := ?_))))))
    refine RunO.append au au au Try.td41 (by rw [Try.zp48]; rfl) (isEls_none _ _) (isEls_none _ _) (by rw [Try.by48]; decide) (by simp) (v := .sl .clip []) (by unfold aAppend; rw [if_pos rfl]) ?_
    refine rh [1, 2, 3, 4, 8, 10] (k := rs (k := ?_))
    refine Run.abs (fun s1 => Fr s s1 ∧ s1.nxt = s.nxt + 1 + 1 + 1 + 1 ∧ s1.blk s.nxt = some (.row 24 [.agg [.int .i64 t.frame, .own (s.nxt + 1 + 1) 0 t.tens.length]]) ∧ s1.blk (s.nxt + 1) = some (.row 24 [.agg [.int .i64 0, .sl .nil []]]) ∧ s1.blk (s.nxt + 1 + 1) = some (.row 43 ((t.tens.map Ten.pv).set k (.agg [.int .i64 x.unit, .int .u32 x.fns, .int .i64 x.queue, .own (s.nxt + 1 + 1 + 1) 0 x.wins.length, .sl .clip []]))) ∧ s1.blk (s.nxt + 1 + 1 + 1) = some (.row 45 (x.wins.map Win.pv))) ⟨by repeat (first | exact Fr.refl hwf | refine Fr.new ?_ _ | refine Fr.set ?_ (by omega) (by simp only [nxt_new, nxt_set]; omega) _), by simp only [go_sem], by simp only [go_sem, ↓reduceIte, Nat.reduceEqDiff, Nat.reduceAdd], by simp only [go_sem, ↓reduceIte, Nat.reduceEqDiff, Nat.reduceAdd], by simp only [go_sem, ↓reduceIte, Nat.reduceEqDiff, Nat.reduceAdd], by simp only [go_sem, ↓reduceIte, Nat.reduceEqDiff, Nat.reduceAdd]⟩ ?_
    rintro s1 ⟨F1, hn1, b4, b8, bA, bB⟩
    have hwi0 := withinI_bound (n := n) (lo := 0) (hi := 5) (by decide)
    have hsi0 := withinI_bound (n := n) (lo := 0) (hi := 2) (by decide)
    obtain ⟨wi, hwi⟩ : ∃ y : Nat, withinI n 0 5 = y := ⟨_, (Int.toNat_of_nonneg hwi0.1).symm⟩
    obtain ⟨si, hsi⟩ : ∃ y : Nat, withinI n 0 2 = y := ⟨_, (Int.toNat_of_nonneg hsi0.1).symm⟩
    have z0 : (s.nxt = s1.nxt) = False := eq_false (by omega)
    have z1 : (s.nxt + 1 = s1.nxt) = False := eq_false (by omega)
    have z2 : (s.nxt + 1 + 1 = s1.nxt) = False := eq_false (by omega)
    have z3 : (s.nxt + 1 + 1 + 1 = s1.nxt) = False := eq_false (by omega)
    have y0 : (s1.nxt = s.nxt) = False := eq_false (by omega)
    have y1 : (s1.nxt = s.nxt + 1) = False := eq_false (by omega)
    have y2 : (s1.nxt = s.nxt + 1 + 1) = False := eq_false (by omega)
    have y3 : (s1.nxt = s.nxt + 1 + 1 + 1) = False := eq_false (by omega)
    have H := aj b4 (aj b8 (aj bA (aj bB (aj hwi (aj hsi (aj z0 (aj z1 (aj z2 (aj z3 (aj y0 (aj y1 (aj y2 (aj y3 H)))))))))))))
    refine rr (k := ro (pre := [_]) (k := rC (h := within_ (lo := 0) (hi := 5) (by decide) (by decide) (by decide)) (k := ro (pre := [_]) (k := rC (h := within_ (lo := 0) (hi := 2) (by decide) (by decide) (by decide)) (k := rh [1, 2, 3, 4, 8, 10, 11, 12] (k := rs (k := rs (k := rr (k := ro (pre := [_]) (k := rC (h := within_ (lo := 0) (hi := 13) (by decide) (by decide) (by decide)) (k := ?_)))))))))))
    refine rl [2, 3, 4, 8, 10, 11, 12, 56] (k := ?_)
    refine Run.join (fun e s' => e = [(4, .ptr s.nxt 0 0), (8, .ptr (s.nxt + 1) 0 0)] ∧ s'.blk (s.nxt + 1) = some (.row 24 [.agg [.int .i64 0, .sl .nil []]]) ∧ OddR s s' (oddF t what at_ n)) ?_ ?_
    · rintro e s2 ⟨rfl, r0, hO⟩
      obtain ⟨A', els, r1, r2, r3, r4, r5⟩ := hO.row
      have H := aj r0 (aj r1 H)
      refine rs (k := rg [8] (k := rR (k := ?_)))
      exact Ret.pureF (r' := (oddF t what at_ n).pv) 7 (by simp only [Try.f11, go_sem, ↓reduceIte, r0, r1] <;> rfl) ((hO.set _).frz (by simp only [go_sem, ↓reduceIte]; exact r1)) (blw_tab _ _) hwf (hO.set _).fr.blk ⟨rfl, rfl⟩
    intro hJb0
    refine rb (k := rs (k := ?_))
    obtain ⟨wv, hwv⟩ : ∃ y, withinI what 0 13 = y := ⟨_, rfl⟩
    have hwb := withinI_bound (n := what) (lo := 0) (hi := 13) (by decide)
    have hodd := oddF_eq hkw hkl hxe hwv hwi hsi (at_ := at_)
    rw [hwv]
    rw [hwv] at hwb
    refine rg [2, 3, 4, 8, 10, 11, 12, 56, 73] (k := rc (ht := fun hc1 => ?_) (hf := fun hc1 => ?_))
    · have hc := hc1
      refine rg [4, 8] (k := rB (k := ?_))
      have hw9 : wv = 0 := by have h := of_decide_eq_true hc1; omega
      subst hw9
      refine rp [4, 8] (k := ?_)
      refine hJb0 _ _ ⟨rfl, au, ?_⟩
      rw [hodd, show oddG t k x 0 wi si at_ n = ⟨n, t.tens.set k (⟨x.unit, x.fns, x.queue, x.wins, x.slts⟩ : Ten)⟩ by simp only [oddG, oddX, Int.reduceEq, reduceCtorEq, ↓reduceIte, List.append_nil]]
      exact odd_done (by repeat (first | exact F1 | refine Fr.new ?_ _ | refine Fr.set ?_ (by omega) (by first | omega | (simp only [nxt_new, nxt_set]; omega)) _)) (by first | omega | (simp only [go_sem]; omega)) au (by omega) au ⟨.own (s.nxt + 1 + 1 + 1) 0 x.wins.length, .sl .clip [], rfl, .inr ⟨(s.nxt + 1 + 1 + 1), _, by simp, by omega, (by first | (exact au) | (simp only [List.map_set, List.map_append, List.map_cons, List.map_nil]; exact au))⟩, .inl ⟨.clip, by simp [hse]⟩⟩
    · have hc := hc1
      refine rs (k := rg [2, 3, 4, 8, 10, 11, 12, 56, 77] (k := rc (ht := fun hc2 => ?_) (hf := fun hc2 => ?_)))
      · have hc := hc2
        refine rg [4, 8] (k := rB (k := ?_))
        have hw9 : wv = 1 := by have h := of_decide_eq_true hc2; omega
        subst hw9
        refine rp [4, 8] (k := ?_)
        refine hJb0 _ _ ⟨rfl, au, ?_⟩
        rw [hodd, show oddG t k x 1 wi si at_ n = ⟨t.frame, t.tens.set k (⟨n, x.fns, x.queue, x.wins, x.slts⟩ : Ten)⟩ by simp only [oddG, oddX, Int.reduceEq, reduceCtorEq, ↓reduceIte, List.append_nil]]
        exact odd_done (by repeat (first | exact F1 | refine Fr.new ?_ _ | refine Fr.set ?_ (by omega) (by first | omega | (simp only [nxt_new, nxt_set]; omega)) _)) (by first | omega | (simp only [go_sem]; omega)) au (by omega) au ⟨.own (s.nxt + 1 + 1 + 1) 0 x.wins.length, .sl .clip [], rfl, .inr ⟨(s.nxt + 1 + 1 + 1), _, by simp, by omega, (by first | (exact au) | (simp only [List.map_set, List.map_append, List.map_cons, List.map_nil]; exact au))⟩, .inl ⟨.clip, by simp [hse]⟩⟩
      · have hc := hc2
        refine rs (k := rg [2, 3, 4, 8, 10, 11, 12, 56, 83] (k := rc (ht := fun hc3 => ?_) (hf := fun hc3 => ?_)))
        · have hc := hc3
          refine rg [4, 8] (k := rB (k := ?_))
          have hw9 : wv = 2 := by have h := of_decide_eq_true hc3; omega
          subst hw9
          refine rp [4, 8] (k := ?_)
          refine hJb0 _ _ ⟨rfl, au, ?_⟩
          rw [hodd, show oddG t k x 2 wi si at_ n = ⟨t.frame, t.tens.set k (⟨x.unit, x.fns, n, x.wins, x.slts⟩ : Ten)⟩ by simp only [oddG, oddX, Int.reduceEq, reduceCtorEq, ↓reduceIte, List.append_nil]]
          exact odd_done (by repeat (first | exact F1 | refine Fr.new ?_ _ | refine Fr.set ?_ (by omega) (by first | omega | (simp only [nxt_new, nxt_set]; omega)) _)) (by first | omega | (simp only [go_sem]; omega)) au (by omega) au ⟨.own (s.nxt + 1 + 1 + 1) 0 x.wins.length, .sl .clip [], rfl, .inr ⟨(s.nxt + 1 + 1 + 1), _, by simp, by omega, (by first | (exact au) | (simp only [List.map_set, List.map_append, List.map_cons, List.map_nil]; exact au))⟩, .inl ⟨.clip, by simp [hse]⟩⟩
        · have hc := hc3
          refine rs (k := rg [2, 3, 4, 8, 10, 11, 12, 56, 89] (k := rc (ht := fun hc4 => ?_) (hf := fun hc4 => ?_)))
          · have hc := hc4
            refine rg [4, 8] (k := rB (k := ?_))
            have hw9 : wv = 3 := by have h := of_decide_eq_true hc4; omega
            subst hw9
            refine rp [4, 8] (k := ?_)
            refine hJb0 _ _ ⟨rfl, au, ?_⟩
            rw [hodd, show oddG t k x 3 wi si at_ n = ⟨t.frame, t.tens.set k (⟨x.unit, IntKind.u32.wrap n, x.queue, x.wins, x.slts⟩ : Ten)⟩ by simp only [oddG, oddX, Int.reduceEq, reduceCtorEq, ↓reduceIte, List.append_nil]]
            exact odd_done (by repeat (first | exact F1 | refine Fr.new ?_ _ | refine Fr.set ?_ (by omega) (by first | omega | (simp only [nxt_new, nxt_set]; omega)) _)) (by first | omega | (simp only [go_sem]; omega)) au (by omega) au ⟨.own (s.nxt + 1 + 1 + 1) 0 x.wins.length, .sl .clip [], rfl, .inr ⟨(s.nxt + 1 + 1 + 1), _, by simp, by omega, (by first | (exact au) | (simp only [List.map_set, List.map_append, List.map_cons, List.map_nil]; exact au))⟩, .inl ⟨.clip, by simp [hse]⟩⟩
          · have hc := hc4
            refine rs (k := rg [2, 3, 4, 8, 10, 11, 12, 56, 96] (k := rc (ht := fun hc5 => ?_) (hf := fun hc5 => ?_)))
            · have hc := hc5
              refine rr (k := ro (pre := [_, _, _, _, _, _, _]) (k := rO (k := ?_)))
              refine RunO.appendFirst au au au Try.td41 (by rw [Try.zp48]; rfl) (isEls_none _ _) (isEls_map (f := Slt.pv) (fun a => ⟨rfl, by rw [Try.cz48]; rfl⟩) [⟨n, 72⟩]) (by rw [Try.by48]; decide) (by rw [Try.by48]; simp) (v := .own s1.nxt 0 1) (s' := s1.new (.row 48 [.agg [.int .i64 n, .int .i64 72]])) (by simp [aAppendFirst, Slt.pv, Win.pv]) ?_
              refine rh [4, 8] (k := rB (k := ?_))
              have hw9 : wv = 4 := by have h := of_decide_eq_true hc5; omega
              subst hw9
              refine rp [4, 8] (k := ?_)
              refine hJb0 _ _ ⟨rfl, au, ?_⟩
              rw [hodd, show oddG t k x 4 wi si at_ n = ⟨t.frame, t.tens.set k (⟨x.unit, x.fns, x.queue, x.wins, x.slts ++ [⟨n, 72⟩]⟩ : Ten)⟩ by simp only [oddG, oddX, Int.reduceEq, reduceCtorEq, ↓reduceIte, List.append_nil]]
              exact odd_done (by repeat (first | exact F1 | refine Fr.new ?_ _ | refine Fr.set ?_ (by omega) (by first | omega | (simp only [nxt_new, nxt_set]; omega)) _)) (by first | omega | (simp only [go_sem]; omega)) au (by omega) au ⟨.own (s.nxt + 1 + 1 + 1) 0 x.wins.length, .own s1.nxt 0 1, rfl, .inr ⟨(s.nxt + 1 + 1 + 1), _, by simp, by omega, (by first | (exact au) | (simp only [List.map_set, List.map_append, List.map_cons, List.map_nil]; exact au))⟩, .inr ⟨s1.nxt, _, by simp [hse], by omega, (by first | (exact au) | (simp only [List.map_set, List.map_append, List.map_cons, List.map_nil]; exact au))⟩⟩
            · have hc := hc5
              refine rs (k := rg [2, 3, 4, 8, 10, 11, 12, 56, 109] (k := rc (ht := fun hc6 => ?_) (hf := fun hc6 => ?_)))
              · have hc := hc6
                have hb0 := ibits_and_le n 3 (by decide)
                have hb1 := ibits_and_le at_ 1023 (by decide)
                have hb2 := ibits_and_le n 511 (by decide)
                have hb3 := ibits_and_le at_ 31 (by decide)
                obtain ⟨g0, hg0⟩ : ∃ y, ibits .and .i64 n 3 = y := ⟨_, rfl⟩
                obtain ⟨g1, hg1⟩ : ∃ y, ibits .and .i64 at_ 1023 = y := ⟨_, rfl⟩
                obtain ⟨g2, hg2⟩ : ∃ y, ibits .and .i64 n 511 = y := ⟨_, rfl⟩
                obtain ⟨g4, hg4⟩ : ∃ y, ibits .and .i64 at_ 31 = y := ⟨_, rfl⟩
                have hb0 : 0 ≤ g0 ∧ g0 ≤ 3 := hg0 ▸ hb0
                have hb1 : 0 ≤ g1 ∧ g1 ≤ 1023 := hg1 ▸ hb1
                have hb2 : 0 ≤ g2 ∧ g2 ≤ 511 := hg2 ▸ hb2
                have hb3 : 0 ≤ g4 ∧ g4 ≤ 31 := hg4 ▸ hb3
                have hg3 : IntKind.i64.wrap (1 + g4) = 1 + g4 := wrap_i64 (by omega)
                have H := aj hg0 (aj hg1 (aj hg2 (aj hg4 (aj hg3 H))))
                refine rr (k := ro (pre := [_, _, _, _, _, _, _, _, _, _, _, _, _, _, _]) (k := rO (k := ?_)))
                refine RunO.appendOwn au au au Try.td40 (by rw [Try.zp45]; rfl) (isEls_map (f := Win.pv) (fun a => ⟨rfl, by rw [Try.cz45]; rfl⟩) [⟨g0, g1, g2, 1 + g4⟩]) (by rw [Try.by45]; decide) (by rw [Try.by45]; simp; omega) (v := .own s1.nxt 0 (x.wins.length + 1)) (s' := (s1.set (s.nxt + 1 + 1 + 1) none).new (.row 45 (x.wins.map Win.pv ++ [.agg [.int .i64 g0, .int .i64 g1, .int .i64 g2, .int .i64 (1 + g4)]]))) (by unfold aAppendOwn; rw [bB]; simp only [ne_eq, List.cons_ne_nil, not_false_eq_true, List.length_map, Nat.le_refl, and_self, if_true, List.length_cons, List.length_nil, Nat.zero_add]; rw [List.take_of_length_le (by rw [List.length_map]; exact Nat.le_refl _)]; rfl) ?_
                refine rh [4, 8] (k := rB (k := ?_))
                have hw9 : wv = 5 := by have h := of_decide_eq_true hc6; omega
                subst hw9
                refine rp [4, 8] (k := ?_)
                refine hJb0 _ _ ⟨rfl, au, ?_⟩
                rw [hodd, show oddG t k x 5 wi si at_ n = ⟨t.frame, t.tens.set k (⟨x.unit, x.fns, x.queue, x.wins ++ [⟨g0, g1, g2, 1 + g4⟩], x.slts⟩ : Ten)⟩ by simp only [oddG, oddX, Int.reduceEq, reduceCtorEq, ↓reduceIte, List.append_nil, hg0, hg1, hg2, hg4]]
                exact odd_done (by repeat (first | exact F1 | refine Fr.new ?_ _ | refine Fr.set ?_ (by omega) (by first | omega | (simp only [nxt_new, nxt_set]; omega)) _)) (by first | omega | (simp only [go_sem]; omega)) au (by omega) au ⟨.own s1.nxt 0 (x.wins.length + 1), .sl .clip [], rfl, .inr ⟨s1.nxt, _, by simp, by omega, (by first | (exact au) | (simp only [List.map_set, List.map_append, List.map_cons, List.map_nil]; exact au))⟩, .inl ⟨.clip, by simp [hse]⟩⟩
              · have hc := hc6
                refine rs (k := rg [3, 4, 8, 10, 11, 12, 56, 130] (k := rc (ht := fun hc7 => ?_) (hf := fun hc7 => ?_)))
                · have hc := hc7
                  refine rs (k := rg [3, 4, 8, 10, 11, 138] (k := rc (ht := fun hc8 => ?_) (hf := fun hc8 => ?_)))
                  · have hc := hc8
                    have hwl2 : wi < x.wins.length := by have := of_decide_eq_true hc; omega
                    have hwi1 : ((wi : Int) < (x.wins.length : Int)) = True := eq_true (by omega)
                    obtain ⟨w, hwe⟩ : ∃ z_, x.wins[wi]'hwl2 = z_ := ⟨_, rfl⟩
                    have hxw : (x.wins.map Win.pv)[wi]? = some (.agg [.int .i64 (w).space, .int .i64 (w).virt, .int .i64 (w).phys, .int .i64 (w).cnt]) := by rw [map_get hwl2, hwe]; rfl
                    have H := aj hwi1 (aj hxw H)
                    refine rg [4, 8] (k := rB (k := ?_))
                    have hw9 : wv = 6 := by have h := of_decide_eq_true hc7; omega
                    subst hw9
                    refine rp [4, 8] (k := ?_)
                    refine hJb0 _ _ ⟨rfl, au, ?_⟩
                    rw [hodd, show oddG t k x 6 wi si at_ n = ⟨t.frame, t.tens.set k (⟨x.unit, x.fns, x.queue, x.wins.set wi ⟨w.space, w.virt, n, w.cnt⟩, x.slts⟩ : Ten)⟩ by simp only [oddG, oddX, Int.reduceEq, reduceCtorEq, ↓reduceIte, List.append_nil, modF_lt hwl2 hwe]]
                    exact odd_done (by repeat (first | exact F1 | refine Fr.new ?_ _ | refine Fr.set ?_ (by omega) (by first | omega | (simp only [nxt_new, nxt_set]; omega)) _)) (by first | omega | (simp only [go_sem]; omega)) au (by omega) au ⟨.own (s.nxt + 1 + 1 + 1) 0 x.wins.length, .sl .clip [], rfl, .inr ⟨(s.nxt + 1 + 1 + 1), _, by simp, by omega, (by first | (exact au) | (simp only [List.map_set, List.map_append, List.map_cons, List.map_nil]; exact au))⟩, .inl ⟨.clip, by simp [hse]⟩⟩
                  · have hc := hc8
                    refine rk (k := rB (k := ?_))
                    have hw9 : wv = 6 := by have h := of_decide_eq_true hc7; omega
                    subst hw9
                    refine rp [4, 8] (k := ?_)
                    refine hJb0 _ _ ⟨rfl, au, ?_⟩
                    rw [hodd, show oddG t k x 6 wi si at_ n = ⟨t.frame, t.tens.set k (⟨x.unit, x.fns, x.queue, x.wins, x.slts⟩ : Ten)⟩ by simp only [oddG, oddX, Int.reduceEq, reduceCtorEq, ↓reduceIte, List.append_nil, modF_ge (show x.wins.length ≤ wi by have := of_decide_eq_false hc8; first | omega | simp_all)]]
                    exact odd_done (by repeat (first | exact F1 | refine Fr.new ?_ _ | refine Fr.set ?_ (by omega) (by first | omega | (simp only [nxt_new, nxt_set]; omega)) _)) (by first | omega | (simp only [go_sem]; omega)) au (by omega) au ⟨.own (s.nxt + 1 + 1 + 1) 0 x.wins.length, .sl .clip [], rfl, .inr ⟨(s.nxt + 1 + 1 + 1), _, by simp, by omega, (by first | (exact au) | (simp only [List.map_set, List.map_append, List.map_cons, List.map_nil]; exact au))⟩, .inl ⟨.clip, by simp [hse]⟩⟩
                · have hc := hc7
                  refine rs (k := rg [3, 4, 8, 10, 11, 12, 56, 147] (k := rc (ht := fun hc9 => ?_) (hf := fun hc9 => ?_)))
                  · have hc := hc9
                    refine rs (k := rg [3, 4, 8, 10, 11, 155] (k := rc (ht := fun hc10 => ?_) (hf := fun hc10 => ?_)))
                    · have hc := hc10
                      have hwl2 : wi < x.wins.length := by have := of_decide_eq_true hc; omega
                      have hwi1 : ((wi : Int) < (x.wins.length : Int)) = True := eq_true (by omega)
                      obtain ⟨w, hwe⟩ : ∃ z_, x.wins[wi]'hwl2 = z_ := ⟨_, rfl⟩
                      have hxw : (x.wins.map Win.pv)[wi]? = some (.agg [.int .i64 (w).space, .int .i64 (w).virt, .int .i64 (w).phys, .int .i64 (w).cnt]) := by rw [map_get hwl2, hwe]; rfl
                      have H := aj hwi1 (aj hxw H)
                      refine rg [4, 8] (k := rB (k := ?_))
                      have hw9 : wv = 7 := by have h := of_decide_eq_true hc9; omega
                      subst hw9
                      refine rp [4, 8] (k := ?_)
                      refine hJb0 _ _ ⟨rfl, au, ?_⟩
                      rw [hodd, show oddG t k x 7 wi si at_ n = ⟨t.frame, t.tens.set k (⟨x.unit, x.fns, x.queue, x.wins.set wi ⟨w.space, n, w.phys, w.cnt⟩, x.slts⟩ : Ten)⟩ by simp only [oddG, oddX, Int.reduceEq, reduceCtorEq, ↓reduceIte, List.append_nil, modF_lt hwl2 hwe]]
                      exact odd_done (by repeat (first | exact F1 | refine Fr.new ?_ _ | refine Fr.set ?_ (by omega) (by first | omega | (simp only [nxt_new, nxt_set]; omega)) _)) (by first | omega | (simp only [go_sem]; omega)) au (by omega) au ⟨.own (s.nxt + 1 + 1 + 1) 0 x.wins.length, .sl .clip [], rfl, .inr ⟨(s.nxt + 1 + 1 + 1), _, by simp, by omega, (by first | (exact au) | (simp only [List.map_set, List.map_append, List.map_cons, List.map_nil]; exact au))⟩, .inl ⟨.clip, by simp [hse]⟩⟩
                    · have hc := hc10
                      refine rk (k := rB (k := ?_))
                      have hw9 : wv = 7 := by have h := of_decide_eq_true hc9; omega
                      subst hw9
                      refine rp [4, 8] (k := ?_)
                      refine hJb0 _ _ ⟨rfl, au, ?_⟩
                      rw [hodd, show oddG t k x 7 wi si at_ n = ⟨t.frame, t.tens.set k (⟨x.unit, x.fns, x.queue, x.wins, x.slts⟩ : Ten)⟩ by simp only [oddG, oddX, Int.reduceEq, reduceCtorEq, ↓reduceIte, List.append_nil, modF_ge (show x.wins.length ≤ wi by have := of_decide_eq_false hc10; first | omega | simp_all)]]
                      exact odd_done (by repeat (first | exact F1 | refine Fr.new ?_ _ | refine Fr.set ?_ (by omega) (by first | omega | (simp only [nxt_new, nxt_set]; omega)) _)) (by first | omega | (simp only [go_sem]; omega)) au (by omega) au ⟨.own (s.nxt + 1 + 1 + 1) 0 x.wins.length, .sl .clip [], rfl, .inr ⟨(s.nxt + 1 + 1 + 1), _, by simp, by omega, (by first | (exact au) | (simp only [List.map_set, List.map_append, List.map_cons, List.map_nil]; exact au))⟩, .inl ⟨.clip, by simp [hse]⟩⟩
                  · have hc := hc9
                    refine rs (k := rg [3, 4, 8, 10, 11, 12, 56, 164] (k := rc (ht := fun hc11 => ?_) (hf := fun hc11 => ?_)))
                    · have hc := hc11
                      refine rs (k := rg [3, 4, 8, 10, 11, 172] (k := rc (ht := fun hc12 => ?_) (hf := fun hc12 => ?_)))
                      · have hc := hc12
                        have hwl2 : wi < x.wins.length := by have := of_decide_eq_true hc; omega
                        have hwi1 : ((wi : Int) < (x.wins.length : Int)) = True := eq_true (by omega)
                        obtain ⟨w, hwe⟩ : ∃ z_, x.wins[wi]'hwl2 = z_ := ⟨_, rfl⟩
                        have hxw : (x.wins.map Win.pv)[wi]? = some (.agg [.int .i64 (w).space, .int .i64 (w).virt, .int .i64 (w).phys, .int .i64 (w).cnt]) := by rw [map_get hwl2, hwe]; rfl
                        have H := aj hwi1 (aj hxw H)
                        refine rg [4, 8] (k := rB (k := ?_))
                        have hw9 : wv = 8 := by have h := of_decide_eq_true hc11; omega
                        subst hw9
                        refine rp [4, 8] (k := ?_)
                        refine hJb0 _ _ ⟨rfl, au, ?_⟩
                        rw [hodd, show oddG t k x 8 wi si at_ n = ⟨t.frame, t.tens.set k (⟨x.unit, x.fns, x.queue, x.wins.set wi ⟨w.space, w.virt, w.phys, n⟩, x.slts⟩ : Ten)⟩ by simp only [oddG, oddX, Int.reduceEq, reduceCtorEq, ↓reduceIte, List.append_nil, modF_lt hwl2 hwe]]
                        exact odd_done (by repeat (first | exact F1 | refine Fr.new ?_ _ | refine Fr.set ?_ (by omega) (by first | omega | (simp only [nxt_new, nxt_set]; omega)) _)) (by first | omega | (simp only [go_sem]; omega)) au (by omega) au ⟨.own (s.nxt + 1 + 1 + 1) 0 x.wins.length, .sl .clip [], rfl, .inr ⟨(s.nxt + 1 + 1 + 1), _, by simp, by omega, (by first | (exact au) | (simp only [List.map_set, List.map_append, List.map_cons, List.map_nil]; exact au))⟩, .inl ⟨.clip, by simp [hse]⟩⟩
                      · have hc := hc12
                        refine rk (k := rB (k := ?_))
                        have hw9 : wv = 8 := by have h := of_decide_eq_true hc11; omega
                        subst hw9
                        refine rp [4, 8] (k := ?_)
                        refine hJb0 _ _ ⟨rfl, au, ?_⟩
                        rw [hodd, show oddG t k x 8 wi si at_ n = ⟨t.frame, t.tens.set k (⟨x.unit, x.fns, x.queue, x.wins, x.slts⟩ : Ten)⟩ by simp only [oddG, oddX, Int.reduceEq, reduceCtorEq, ↓reduceIte, List.append_nil, modF_ge (show x.wins.length ≤ wi by have := of_decide_eq_false hc12; first | omega | simp_all)]]
                        exact odd_done (by repeat (first | exact F1 | refine Fr.new ?_ _ | refine Fr.set ?_ (by omega) (by first | omega | (simp only [nxt_new, nxt_set]; omega)) _)) (by first | omega | (simp only [go_sem]; omega)) au (by omega) au ⟨.own (s.nxt + 1 + 1 + 1) 0 x.wins.length, .sl .clip [], rfl, .inr ⟨(s.nxt + 1 + 1 + 1), _, by simp, by omega, (by first | (exact au) | (simp only [List.map_set, List.map_append, List.map_cons, List.map_nil]; exact au))⟩, .inl ⟨.clip, by simp [hse]⟩⟩
                    · have hc := hc11
                      refine rs (k := rg [3, 4, 8, 10, 11, 12, 56, 181] (k := rc (ht := fun hc13 => ?_) (hf := fun hc13 => ?_)))
                      · have hc := hc13
                        refine rs (k := rg [3, 4, 8, 10, 12, 189] (k := rc (ht := fun hc14 => ?_) (hf := fun hc14 => ?_)))
                        · have hc := hc14
                          exfalso
                          have h := of_decide_eq_true hc
                          first | omega | (simp at h; omega)
                        · have hc := hc14
                          refine rk (k := rB (k := ?_))
                          have hw9 : wv = 9 := by have h := of_decide_eq_true hc13; omega
                          subst hw9
                          refine rp [4, 8] (k := ?_)
                          refine hJb0 _ _ ⟨rfl, au, ?_⟩
                          rw [hodd, show oddG t k x 9 wi si at_ n = ⟨t.frame, t.tens.set k (⟨x.unit, x.fns, x.queue, x.wins, x.slts⟩ : Ten)⟩ by simp only [oddG, oddX, Int.reduceEq, reduceCtorEq, ↓reduceIte, List.append_nil, modF_ge (show x.slts.length ≤ si by have := of_decide_eq_false hc14; first | omega | simp_all)]]
                          exact odd_done (by repeat (first | exact F1 | refine Fr.new ?_ _ | refine Fr.set ?_ (by omega) (by first | omega | (simp only [nxt_new, nxt_set]; omega)) _)) (by first | omega | (simp only [go_sem]; omega)) au (by omega) au ⟨.own (s.nxt + 1 + 1 + 1) 0 x.wins.length, .sl .clip [], rfl, .inr ⟨(s.nxt + 1 + 1 + 1), _, by simp, by omega, (by first | (exact au) | (simp only [List.map_set, List.map_append, List.map_cons, List.map_nil]; exact au))⟩, .inl ⟨.clip, by simp [hse]⟩⟩
                      · have hc := hc13
                        refine rs (k := rg [3, 4, 8, 10, 11, 12, 56, 198] (k := rc (ht := fun hc15 => ?_) (hf := fun hc15 => ?_)))
                        · have hc := hc15
                          refine rs (k := rg [3, 4, 8, 10, 12, 206] (k := rc (ht := fun hc16 => ?_) (hf := fun hc16 => ?_)))
                          · have hc := hc16
                            exfalso
                            have h := of_decide_eq_true hc
                            first | omega | (simp at h; omega)
                          · have hc := hc16
                            refine rk (k := rB (k := ?_))
                            have hw9 : wv = 10 := by have h := of_decide_eq_true hc15; omega
                            subst hw9
                            refine rp [4, 8] (k := ?_)
                            refine hJb0 _ _ ⟨rfl, au, ?_⟩
                            rw [hodd, show oddG t k x 10 wi si at_ n = ⟨t.frame, t.tens.set k (⟨x.unit, x.fns, x.queue, x.wins, x.slts⟩ : Ten)⟩ by simp only [oddG, oddX, Int.reduceEq, reduceCtorEq, ↓reduceIte, List.append_nil, modF_ge (show x.slts.length ≤ si by have := of_decide_eq_false hc16; first | omega | simp_all)]]
                            exact odd_done (by repeat (first | exact F1 | refine Fr.new ?_ _ | refine Fr.set ?_ (by omega) (by first | omega | (simp only [nxt_new, nxt_set]; omega)) _)) (by first | omega | (simp only [go_sem]; omega)) au (by omega) au ⟨.own (s.nxt + 1 + 1 + 1) 0 x.wins.length, .sl .clip [], rfl, .inr ⟨(s.nxt + 1 + 1 + 1), _, by simp, by omega, (by first | (exact au) | (simp only [List.map_set, List.map_append, List.map_cons, List.map_nil]; exact au))⟩, .inl ⟨.clip, by simp [hse]⟩⟩
                        · have hc := hc15
                          refine rs (k := rg [3, 4, 8, 10, 11, 56, 215] (k := rc (ht := fun hc17 => ?_) (hf := fun hc17 => ?_)))
                          · have hc := hc17
                            refine Run.drawCut 6 [] Try.mixed (by kernel_rfl) (by kernel_rfl) ?_
                            refine DetC.all au ?_
                            refine RunO.appendOwn au au au Try.td22 (by rw [Try.zp43]; rfl) (fun p hp => by rw [List.mem_singleton.1 hp]; exact ⟨rfl, by rw [Try.cz43]; rfl⟩) (by rw [Try.by43]; decide) (by rw [Try.by43]; simp; omega) (v := .own s1.nxt 0 (t.tens.length + 1)) (s' := (s1.set (s.nxt + 1 + 1) none).new (.row 43 ((t.tens.map Ten.pv).set k (.agg [.int .i64 x.unit, .int .u32 x.fns, .int .i64 x.queue, .own (s.nxt + 1 + 1 + 1) 0 x.wins.length, .sl .clip []]) ++ [.agg [.int .i64 x.unit, .int .u32 x.fns, .int .i64 x.queue, .own (s.nxt + 1 + 1 + 1) 0 x.wins.length, .sl .clip []]]))) (by unfold aAppendOwn; rw [bA]; simp only [ne_eq, List.cons_ne_nil, not_false_eq_true, List.length_set, List.length_map, Nat.le_refl, and_self, if_true, List.length_cons, List.length_nil, Nat.zero_add]; rw [List.take_of_length_le (by simp)]) ?_
                            refine rh [4, 8] (k := rB (k := ?_))
                            have hw9 : wv = 11 := by have h := of_decide_eq_true hc17; omega
                            subst hw9
                            refine rp [4, 8] (k := ?_)
                            refine hJb0 _ _ ⟨rfl, au, ?_⟩
                            rw [hodd, show oddG t k x 11 wi si at_ n = ⟨t.frame, t.tens.set k (⟨x.unit, x.fns, x.queue, x.wins, x.slts⟩ : Ten) ++ [(⟨x.unit, x.fns, x.queue, x.wins, x.slts⟩ : Ten)]⟩ by simp only [oddG, oddX, Int.reduceEq, reduceCtorEq, ↓reduceIte, List.append_nil]]
                            exact odd_app (by repeat (first | exact F1 | refine Fr.new ?_ _ | refine Fr.set ?_ (by omega) (by first | omega | (simp only [nxt_new, nxt_set]; omega)) _)) (by first | omega | (simp only [go_sem]; omega)) au (by omega) au ⟨.own (s.nxt + 1 + 1 + 1) 0 x.wins.length, .sl .clip [], rfl, .inr ⟨(s.nxt + 1 + 1 + 1), _, by simp, by omega, (by first | (exact au) | (simp only [List.map_set, List.map_append, List.map_cons, List.map_nil]; exact au))⟩, .inl ⟨.clip, by simp [hse]⟩⟩
                          · have hc := hc17
                            refine rs (k := rg [3, 4, 8, 10, 11, 225] (k := rc (ht := fun hc18 => ?_) (hf := fun hc18 => ?_)))
                            · have hc := hc18
                              refine rg [4, 8] (k := rB (k := ?_))
                              have hw9 : wv = 12 := by have h := of_decide_eq_true hc18; omega
                              subst hw9
                              refine rp [4, 8] (k := ?_)
                              refine hJb0 _ _ ⟨rfl, au, ?_⟩
                              rw [hodd, show oddG t k x 12 wi si at_ n = ⟨t.frame, t.tens.set k (⟨x.unit, x.fns, x.queue, x.wins, []⟩ : Ten)⟩ by simp only [oddG, oddX, Int.reduceEq, reduceCtorEq, ↓reduceIte, List.append_nil]]
                              exact odd_done (by repeat (first | exact F1 | refine Fr.new ?_ _ | refine Fr.set ?_ (by omega) (by first | omega | (simp only [nxt_new, nxt_set]; omega)) _)) (by first | omega | (simp only [go_sem]; omega)) au (by omega) au ⟨.own (s.nxt + 1 + 1 + 1) 0 x.wins.length, .sl .nil [], rfl, .inr ⟨(s.nxt + 1 + 1 + 1), _, by simp, by omega, (by first | (exact au) | (simp only [List.map_set, List.map_append, List.map_cons, List.map_nil]; exact au))⟩, .inl ⟨.nil, rfl⟩⟩
                            · have hc := hc18
                              refine rs (k := rg [3, 4, 8, 10, 11, 63] (k := rc (ht := fun hc19 => ?_) (hf := fun hc19 => ?_)))
                              · have hc := hc19
                                have hwl2 : wi < x.wins.length := by have := of_decide_eq_true hc; omega
                                have hwi1 : ((wi : Int) < (x.wins.length : Int)) = True := eq_true (by omega)
                                obtain ⟨w, hwe⟩ : ∃ z_, x.wins[wi]'hwl2 = z_ := ⟨_, rfl⟩
                                have hxw : (x.wins.map Win.pv)[wi]? = some (.agg [.int .i64 (w).space, .int .i64 (w).virt, .int .i64 (w).phys, .int .i64 (w).cnt]) := by rw [map_get hwl2, hwe]; rfl
                                have hb7 := ibits_and_le n 7 (by decide)
                                obtain ⟨g7, hg7⟩ : ∃ y, ibits .and .i64 n 7 = y := ⟨_, rfl⟩
                                have hb7 : 0 ≤ g7 ∧ g7 ≤ 7 := hg7 ▸ hb7
                                have H := aj hwi1 (aj hxw (aj hg7 H))
                                refine rg [4, 8] (k := rB (k := ?_))
                                have hw9 : wv = 13 := by have := of_decide_eq_false hc1; have := of_decide_eq_false hc2; have := of_decide_eq_false hc3; have := of_decide_eq_false hc4; have := of_decide_eq_false hc5; have := of_decide_eq_false hc6; have := of_decide_eq_false hc7; have := of_decide_eq_false hc9; have := of_decide_eq_false hc11; have := of_decide_eq_false hc13; have := of_decide_eq_false hc15; have := of_decide_eq_false hc17; have := of_decide_eq_false hc18; omega
                                subst hw9
                                refine rp [4, 8] (k := ?_)
                                refine hJb0 _ _ ⟨rfl, au, ?_⟩
                                rw [hodd, show oddG t k x 13 wi si at_ n = ⟨t.frame, t.tens.set k (⟨x.unit, x.fns, x.queue, x.wins.set wi ⟨g7, w.virt, w.phys, w.cnt⟩, x.slts⟩ : Ten)⟩ by simp only [oddG, oddX, Int.reduceEq, reduceCtorEq, ↓reduceIte, List.append_nil, modF_lt hwl2 hwe, hg7]]
                                exact odd_done (by repeat (first | exact F1 | refine Fr.new ?_ _ | refine Fr.set ?_ (by omega) (by first | omega | (simp only [nxt_new, nxt_set]; omega)) _)) (by first | omega | (simp only [go_sem]; omega)) au (by omega) au ⟨.own (s.nxt + 1 + 1 + 1) 0 x.wins.length, .sl .clip [], rfl, .inr ⟨(s.nxt + 1 + 1 + 1), _, by simp, by omega, (by first | (exact au) | (simp only [List.map_set, List.map_append, List.map_cons, List.map_nil]; exact au))⟩, .inl ⟨.clip, by simp [hse]⟩⟩
                              · have hc := hc19
                                refine rk (k := rB (k := ?_))
                                have hw9 : wv = 13 := by have := of_decide_eq_false hc1; have := of_decide_eq_false hc2; have := of_decide_eq_false hc3; have := of_decide_eq_false hc4; have := of_decide_eq_false hc5; have := of_decide_eq_false hc6; have := of_decide_eq_false hc7; have := of_decide_eq_false hc9; have := of_decide_eq_false hc11; have := of_decide_eq_false hc13; have := of_decide_eq_false hc15; have := of_decide_eq_false hc17; have := of_decide_eq_false hc18; omega
                                subst hw9
                                refine rp [4, 8] (k := ?_)
                                refine hJb0 _ _ ⟨rfl, au, ?_⟩
                                rw [hodd, show oddG t k x 13 wi si at_ n = ⟨t.frame, t.tens.set k (⟨x.unit, x.fns, x.queue, x.wins, x.slts⟩ : Ten)⟩ by simp only [oddG, oddX, Int.reduceEq, reduceCtorEq, ↓reduceIte, List.append_nil, modF_ge (show x.wins.length ≤ wi by have := of_decide_eq_false hc19; first | omega | simp_all)]]
                                exact odd_done (by repeat (first | exact F1 | refine Fr.new ?_ _ | refine Fr.set ?_ (by omega) (by first | omega | (simp only [nxt_new, nxt_set]; omega)) _)) (by first | omega | (simp only [go_sem]; omega)) au (by omega) au ⟨.own (s.nxt + 1 + 1 + 1) 0 x.wins.length, .sl .clip [], rfl, .inr ⟨(s.nxt + 1 + 1 + 1), _, by simp, by omega, (by first | (exact au) | (simp only [List.map_set, List.map_append, List.map_cons, List.map_nil]; exact au))⟩, .inl ⟨.clip, by simp [hse]⟩⟩
set_option maxRecDepth 100000 in
theorem odd_ns {t : Tab} {m : Nat} (hm : m ≤ 1000) (ht : t.few m) {what at_ n : Int} (hwI : I64 what) (haI : I64 at_) (hnI : I64 n) {k : Nat} (hkw : withinI at_ 0 (t.tens.length - 1) = k) (hkl : k < t.tens.length) {x : Ten} (hxe : t.tens[k] = x) (hwe : x.wins = []) (hse : x.slts ≠ []) {s : St} : ACalls Try.prog 11 [t.pv, .int .i64 what, .int .i64 at_, .int .i64 n] s (fun r s' => r = (oddF t what at_ n).pv ∧ s' = s) := by
  refine go Try.func11 (k := fun hwf H => ?_)
  have hnt := ht.nt
  have hxm : x ∈ t.tens := by rw [← hxe]; exact List.getElem_mem _
  have hnw := ht.nw x hxm
  have hns := ht.ns x hxm
  have hte : t.tens ≠ [] := fun h => by rw [h] at hkl; simp at hkl
  have hxx : (t.tens.map Ten.pv)[k]? = some (.agg [.int .i64 (x).unit, .int .u32 (x).fns, .int .i64 (x).queue, .sl .unk ((x).wins.map Win.pv), .sl .unk ((x).slts.map Slt.pv)]) := by rw [map_get hkl, hxe]; rfl
  have hgs : ∀ X, ((t.tens.map Ten.pv).set k X)[k]? = some X := fun X => by rw [List.getElem?_set]; simp [hkl]
  have hwl : IntKind.i64.wrap ((t.tens.length : Int) - 1) = (t.tens.length : Int) - 1 := wrap_i64 (by omega)
  have htl0 : ((t.tens.length : Int) = 0) = False := eq_false (by omega)
  have hk2 : ((k : Int) < (t.tens.length : Int)) = True := eq_true (by omega)
  have H := aj hgs (aj hwl (aj hkw (aj hk2 (aj htl0 (aj hwe H)))))
  refine rs (k := rg [1, 2, 3, 4, 8] (k := rs (k := rr (k := rO (k := ro (pre := [_, _]) (k := ?_))))))
  refine RunO.appendFirst au au au Try.td22 (by rw [Try.zp43]; rfl) (isEls_none _ _) (isEls_map (f := Ten.pv) (fun a => ⟨rfl, by rw [Try.cz43]; rfl⟩) _) (by rw [Try.by43]; decide) (by rw [Try.by43]; simp; omega) (by simp only [aAppendFirst, List.map_eq_nil_iff, ne_eq, hte, not_false_eq_true, if_true, List.length_nil, Nat.zero_add, List.length_map, List.nil_append, go_sem]; rfl) ?_
  refine rh [1, 2, 3, 4, 8] (k := rs (k := rs (k := rg [1, 2, 3, 4, 8, 21] (k := rc (ht := fun hc0 => ?_) (hf := fun hc0 => ?_)))))
  · cases hc0
  · have hc := hc0
    refine rk (k := rs (k := rr (k := ro (pre := [_, _, _, _, _]) (k := rC (h := within_ (lo := 0) (hi := (t.tens.length : Int) - 1) (by decide) (by omega) (by omega)) (k := rh [1, 2, 3, 4, 8, 9] (k := rs (k := rg [1, 2, 3, 4, 8, 10] (k := rs (k := ?_)))))))))
    have H := aj hxx H
    refine rr (k := ro (pre := [_]) (k := rO (k := ro (pre := [_, _, _, _]) (k := ?_))))
    refine RunO.append au au au Try.td40 (by rw [Try.zp45]; rfl) (isEls_none _ _) (isEls_none _ _) (by rw [Try.by45]; decide) (by simp) (v := .sl .clip []) (by unfold aAppend; rw [if_pos rfl]) ?_
    refine rh [1, 2, 3, 4, 8, 10] (k := rs (k := rr (k := ro (pre := [_]) (k := rO (k := ro (pre := [_, _, _, _]) (k := ?_))))))
    refine RunO.appendFirst au au au Try.td41 (by rw [Try.zp48]; rfl) (isEls_none _ _) (isEls_map (f := Slt.pv) (fun a => ⟨rfl, by rw [Try.cz48]; rfl⟩) _) (by rw [Try.by48]; decide) (by rw [Try.by48]; simp; omega) (by simp only [aAppendFirst, List.map_eq_nil_iff, ne_eq, hse, not_false_eq_true, if_true, List.length_nil, Nat.zero_add, List.length_map, List.nil_append, go_sem]; rfl) ?_
    refine rh [1, 2, 3, 4, 8, 10] (k := rs (k := ?_))
    refine Run.abs (fun s1 => Fr s s1 ∧ s1.nxt = s.nxt + 1 + 1 + 1 + 1 ∧ s1.blk s.nxt = some (.row 24 [.agg [.int .i64 t.frame, .own (s.nxt + 1 + 1) 0 t.tens.length]]) ∧ s1.blk (s.nxt + 1) = some (.row 24 [.agg [.int .i64 0, .sl .nil []]]) ∧ s1.blk (s.nxt + 1 + 1) = some (.row 43 ((t.tens.map Ten.pv).set k (.agg [.int .i64 x.unit, .int .u32 x.fns, .int .i64 x.queue, .sl .clip [], .own (s.nxt + 1 + 1 + 1) 0 x.slts.length]))) ∧ s1.blk (s.nxt + 1 + 1 + 1) = some (.row 48 (x.slts.map Slt.pv))) ⟨by repeat (first | exact Fr.refl hwf | refine Fr.new ?_ _ | refine Fr.set ?_ (by omega) (by simp only [nxt_new, nxt_set]; omega) _), by simp only [go_sem], by simp only [go_sem, ↓reduceIte, Nat.reduceEqDiff, Nat.reduceAdd], by simp only [go_sem, ↓reduceIte, Nat.reduceEqDiff, Nat.reduceAdd], by simp only [go_sem, ↓reduceIte, Nat.reduceEqDiff, Nat.reduceAdd], by simp only [go_sem, ↓reduceIte, Nat.reduceEqDiff, Nat.reduceAdd]⟩ ?_
    rintro s1 ⟨F1, hn1, b4, b8, bA, bC⟩
    have hwi0 := withinI_bound (n := n) (lo := 0) (hi := 5) (by decide)
    have hsi0 := withinI_bound (n := n) (lo := 0) (hi := 2) (by decide)
    obtain ⟨wi, hwi⟩ : ∃ y : Nat, withinI n 0 5 = y := ⟨_, (Int.toNat_of_nonneg hwi0.1).symm⟩
    obtain ⟨si, hsi⟩ : ∃ y : Nat, withinI n 0 2 = y := ⟨_, (Int.toNat_of_nonneg hsi0.1).symm⟩
    have z0 : (s.nxt = s1.nxt) = False := eq_false (by omega)
    have z1 : (s.nxt + 1 = s1.nxt) = False := eq_false (by omega)
    have z2 : (s.nxt + 1 + 1 = s1.nxt) = False := eq_false (by omega)
    have z3 : (s.nxt + 1 + 1 + 1 = s1.nxt) = False := eq_false (by omega)
    have y0 : (s1.nxt = s.nxt) = False := eq_false (by omega)
    have y1 : (s1.nxt = s.nxt + 1) = False := eq_false (by omega)
    have y2 : (s1.nxt = s.nxt + 1 + 1) = False := eq_false (by omega)
    have y3 : (s1.nxt = s.nxt + 1 + 1 + 1) = False := eq_false (by omega)
    have H := aj b4 (aj b8 (aj bA (aj bC (aj hwi (aj hsi (aj z0 (aj z1 (aj z2 (aj z3 (aj y0 (aj y1 (aj y2 (aj y3 H)))))))))))))
    refine rr (k := ro (pre := [_]) (k := rC (h := within_ (lo := 0) (hi := 5) (by decide) (by decide) (by decide)) (k := ro (pre := [_]) (k := rC (h := within_ (lo := 0) (hi := 2) (by decide) (by decide) (by decide)) (k := rh [1, 2, 3, 4, 8, 10, 11, 12] (k := rs (k := rs (k := rr (k := ro (pre := [_]) (k := rC (h := within_ (lo := 0) (hi := 13) (by decide) (by decide) (by decide)) (k := ?_)))))))))))
    refine rl [2, 3, 4, 8, 10, 11, 12, 56] (k := ?_)
    refine Run.join (fun e s' => e = [(4, .ptr s.nxt 0 0), (8, .ptr (s.nxt + 1) 0 0)] ∧ s'.blk (s.nxt + 1) = some (.row 24 [.agg [.int .i64 0, .sl .nil []]]) ∧ OddR s s' (oddF t what at_ n)) ?_ ?_
    · rintro e s2 ⟨rfl, r0, hO⟩
      obtain ⟨A', els, r1, r2, r3, r4, r5⟩ := hO.row
      have H := aj r0 (aj r1 H)
      refine rs (k := rg [8] (k := rR (k := ?_)))
      exact Ret.pureF (r' := (oddF t what at_ n).pv) 7 (by simp only [Try.f11, go_sem, ↓reduceIte, r0, r1] <;> rfl) ((hO.set _).frz (by simp only [go_sem, ↓reduceIte]; exact r1)) (blw_tab _ _) hwf (hO.set _).fr.blk ⟨rfl, rfl⟩
    intro hJb0
    refine rb (k := rs (k := ?_))
    obtain ⟨wv, hwv⟩ : ∃ y, withinI what 0 13 = y := ⟨_, rfl⟩
    have hwb := withinI_bound (n := what) (lo := 0) (hi := 13) (by decide)
    have hodd := oddF_eq hkw hkl hxe hwv hwi hsi (at_ := at_)
    rw [hwv]
    rw [hwv] at hwb
    refine rg [2, 3, 4, 8, 10, 11, 12, 56, 73] (k := rc (ht := fun hc1 => ?_) (hf := fun hc1 => ?_))
    · have hc := hc1
      refine rg [4, 8] (k := rB (k := ?_))
      have hw9 : wv = 0 := by have h := of_decide_eq_true hc1; omega
      subst hw9
      refine rp [4, 8] (k := ?_)
      refine hJb0 _ _ ⟨rfl, au, ?_⟩
      rw [hodd, show oddG t k x 0 wi si at_ n = ⟨n, t.tens.set k (⟨x.unit, x.fns, x.queue, x.wins, x.slts⟩ : Ten)⟩ by simp only [oddG, oddX, Int.reduceEq, reduceCtorEq, ↓reduceIte, List.append_nil]]
      exact odd_done (by repeat (first | exact F1 | refine Fr.new ?_ _ | refine Fr.set ?_ (by omega) (by first | omega | (simp only [nxt_new, nxt_set]; omega)) _)) (by first | omega | (simp only [go_sem]; omega)) au (by omega) au ⟨.sl .clip [], .own (s.nxt + 1 + 1 + 1) 0 x.slts.length, rfl, .inl ⟨.clip, by simp [hwe]⟩, .inr ⟨(s.nxt + 1 + 1 + 1), _, by simp, by omega, (by first | (exact au) | (simp only [List.map_set, List.map_append, List.map_cons, List.map_nil]; exact au))⟩⟩
    · have hc := hc1
      refine rs (k := rg [2, 3, 4, 8, 10, 11, 12, 56, 77] (k := rc (ht := fun hc2 => ?_) (hf := fun hc2 => ?_)))
      · have hc := hc2
        refine rg [4, 8] (k := rB (k := ?_))
        have hw9 : wv = 1 := by have h := of_decide_eq_true hc2; omega
        subst hw9
        refine rp [4, 8] (k := ?_)
        refine hJb0 _ _ ⟨rfl, au, ?_⟩
        rw [hodd, show oddG t k x 1 wi si at_ n = ⟨t.frame, t.tens.set k (⟨n, x.fns, x.queue, x.wins, x.slts⟩ : Ten)⟩ by simp only [oddG, oddX, Int.reduceEq, reduceCtorEq, ↓reduceIte, List.append_nil]]
        exact odd_done (by repeat (first | exact F1 | refine Fr.new ?_ _ | refine Fr.set ?_ (by omega) (by first | omega | (simp only [nxt_new, nxt_set]; omega)) _)) (by first | omega | (simp only [go_sem]; omega)) au (by omega) au ⟨.sl .clip [], .own (s.nxt + 1 + 1 + 1) 0 x.slts.length, rfl, .inl ⟨.clip, by simp [hwe]⟩, .inr ⟨(s.nxt + 1 + 1 + 1), _, by simp, by omega, (by first | (exact au) | (simp only [List.map_set, List.map_append, List.map_cons, List.map_nil]; exact au))⟩⟩
      · have hc := hc2
        refine rs (k := rg [2, 3, 4, 8, 10, 11, 12, 56, 83] (k := rc (ht := fun hc3 => ?_) (hf := fun hc3 => ?_)))
        · have hc := hc3
          refine rg [4, 8] (k := rB (k := ?_))
          have hw9 : wv = 2 := by have h := of_decide_eq_true hc3; omega
          subst hw9
          refine rp [4, 8] (k := ?_)
          refine hJb0 _ _ ⟨rfl, au, ?_⟩
          rw [hodd, show oddG t k x 2 wi si at_ n = ⟨t.frame, t.tens.set k (⟨x.unit, x.fns, n, x.wins, x.slts⟩ : Ten)⟩ by simp only [oddG, oddX, Int.reduceEq, reduceCtorEq, ↓reduceIte, List.append_nil]]
          exact odd_done (by repeat (first | exact F1 | refine Fr.new ?_ _ | refine Fr.set ?_ (by omega) (by first | omega | (simp only [nxt_new, nxt_set]; omega)) _)) (by first | omega | (simp only [go_sem]; omega)) au (by omega) au ⟨.sl .clip [], .own (s.nxt + 1 + 1 + 1) 0 x.slts.length, rfl, .inl ⟨.clip, by simp [hwe]⟩, .inr ⟨(s.nxt + 1 + 1 + 1), _, by simp, by omega, (by first | (exact au) | (simp only [List.map_set, List.map_append, List.map_cons, List.map_nil]; exact au))⟩⟩
        · have hc := hc3
          refine rs (k := rg [2, 3, 4, 8, 10, 11, 12, 56, 89] (k := rc (ht := fun hc4 => ?_) (hf := fun hc4 => ?_)))
          · have hc := hc4
            refine rg [4, 8] (k := rB (k := ?_))
            have hw9 : wv = 3 := by have h := of_decide_eq_true hc4; omega
            subst hw9
            refine rp [4, 8] (k := ?_)
            refine hJb0 _ _ ⟨rfl, au, ?_⟩
            rw [hodd, show oddG t k x 3 wi si at_ n = ⟨t.frame, t.tens.set k (⟨x.unit, IntKind.u32.wrap n, x.queue, x.wins, x.slts⟩ : Ten)⟩ by simp only [oddG, oddX, Int.reduceEq, reduceCtorEq, ↓reduceIte, List.append_nil]]
            exact odd_done (by repeat (first | exact F1 | refine Fr.new ?_ _ | refine Fr.set ?_ (by omega) (by first | omega | (simp only [nxt_new, nxt_set]; omega)) _)) (by first | omega | (simp only [go_sem]; omega)) au (by omega) au ⟨.sl .clip [], .own (s.nxt + 1 + 1 + 1) 0 x.slts.length, rfl, .inl ⟨.clip, by simp [hwe]⟩, .inr ⟨(s.nxt + 1 + 1 + 1), _, by simp, by omega, (by first | (exact au) | (simp only [List.map_set, List.map_append, List.map_cons, List.map_nil]; exact au))⟩⟩
          · have hc := hc4
            refine rs (k := rg [2, 3, 4, 8, 10, 11, 12, 56, 96] (k := rc (ht := fun hc5 => ?_) (hf := fun hc5 => ?_)))
            · have hc := hc5
              refine rr (k := ro (pre := [_, _, _, _, _, _, _]) (k := rO (k := ?_)))
              refine RunO.appendOwn au au au Try.td41 (by rw [Try.zp48]; rfl) (isEls_map (f := Slt.pv) (fun a => ⟨rfl, by rw [Try.cz48]; rfl⟩) [⟨n, 72⟩]) (by rw [Try.by48]; decide) (by rw [Try.by48]; simp; omega) (v := .own s1.nxt 0 (x.slts.length + 1)) (s' := (s1.set (s.nxt + 1 + 1 + 1) none).new (.row 48 (x.slts.map Slt.pv ++ [.agg [.int .i64 n, .int .i64 72]]))) (by unfold aAppendOwn; rw [bC]; simp only [ne_eq, List.cons_ne_nil, not_false_eq_true, List.length_map, Nat.le_refl, and_self, if_true, List.length_cons, List.length_nil, Nat.zero_add]; rw [List.take_of_length_le (by rw [List.length_map]; exact Nat.le_refl _)]; rfl) ?_
              refine rh [4, 8] (k := rB (k := ?_))
              have hw9 : wv = 4 := by have h := of_decide_eq_true hc5; omega
              subst hw9
              refine rp [4, 8] (k := ?_)
              refine hJb0 _ _ ⟨rfl, au, ?_⟩
              rw [hodd, show oddG t k x 4 wi si at_ n = ⟨t.frame, t.tens.set k (⟨x.unit, x.fns, x.queue, x.wins, x.slts ++ [⟨n, 72⟩]⟩ : Ten)⟩ by simp only [oddG, oddX, Int.reduceEq, reduceCtorEq, ↓reduceIte, List.append_nil]]
              exact odd_done (by repeat (first | exact F1 | refine Fr.new ?_ _ | refine Fr.set ?_ (by omega) (by first | omega | (simp only [nxt_new, nxt_set]; omega)) _)) (by first | omega | (simp only [go_sem]; omega)) au (by omega) au ⟨.sl .clip [], .own s1.nxt 0 (x.slts.length + 1), rfl, .inl ⟨.clip, by simp [hwe]⟩, .inr ⟨s1.nxt, _, by simp, by omega, (by first | (exact au) | (simp only [List.map_set, List.map_append, List.map_cons, List.map_nil]; exact au))⟩⟩
            · have hc := hc5
              refine rs (k := rg [2, 3, 4, 8, 10, 11, 12, 56, 109] (k := rc (ht := fun hc6 => ?_) (hf := fun hc6 => ?_)))
              · have hc := hc6
                have hb0 := ibits_and_le n 3 (by decide)
                have hb1 := ibits_and_le at_ 1023 (by decide)
                have hb2 := ibits_and_le n 511 (by decide)
                have hb3 := ibits_and_le at_ 31 (by decide)
                obtain ⟨g0, hg0⟩ : ∃ y, ibits .and .i64 n 3 = y := ⟨_, rfl⟩
                obtain ⟨g1, hg1⟩ : ∃ y, ibits .and .i64 at_ 1023 = y := ⟨_, rfl⟩
                obtain ⟨g2, hg2⟩ : ∃ y, ibits .and .i64 n 511 = y := ⟨_, rfl⟩
                obtain ⟨g4, hg4⟩ : ∃ y, ibits .and .i64 at_ 31 = y := ⟨_, rfl⟩
                have hb0 : 0 ≤ g0 ∧ g0 ≤ 3 := hg0 ▸ hb0
                have hb1 : 0 ≤ g1 ∧ g1 ≤ 1023 := hg1 ▸ hb1
                have hb2 : 0 ≤ g2 ∧ g2 ≤ 511 := hg2 ▸ hb2
                have hb3 : 0 ≤ g4 ∧ g4 ≤ 31 := hg4 ▸ hb3
                have hg3 : IntKind.i64.wrap (1 + g4) = 1 + g4 := wrap_i64 (by omega)
                have H := aj hg0 (aj hg1 (aj hg2 (aj hg4 (aj hg3 H))))
                refine rr (k := ro (pre := [_, _, _, _, _, _, _, _, _, _, _, _, _, _, _]) (k := rO (k := ?_)))
                refine RunO.appendFirst au au au Try.td40 (by rw [Try.zp45]; rfl) (isEls_none _ _) (isEls_map (f := Win.pv) (fun a => ⟨rfl, by rw [Try.cz45]; rfl⟩) [⟨g0, g1, g2, 1 + g4⟩]) (by rw [Try.by45]; decide) (by rw [Try.by45]; simp) (v := .own s1.nxt 0 1) (s' := s1.new (.row 45 [.agg [.int .i64 g0, .int .i64 g1, .int .i64 g2, .int .i64 (1 + g4)]])) (by simp [aAppendFirst, Slt.pv, Win.pv]) ?_
                refine rh [4, 8] (k := rB (k := ?_))
                have hw9 : wv = 5 := by have h := of_decide_eq_true hc6; omega
                subst hw9
                refine rp [4, 8] (k := ?_)
                refine hJb0 _ _ ⟨rfl, au, ?_⟩
                rw [hodd, show oddG t k x 5 wi si at_ n = ⟨t.frame, t.tens.set k (⟨x.unit, x.fns, x.queue, x.wins ++ [⟨g0, g1, g2, 1 + g4⟩], x.slts⟩ : Ten)⟩ by simp only [oddG, oddX, Int.reduceEq, reduceCtorEq, ↓reduceIte, List.append_nil, hg0, hg1, hg2, hg4]]
                exact odd_done (by repeat (first | exact F1 | refine Fr.new ?_ _ | refine Fr.set ?_ (by omega) (by first | omega | (simp only [nxt_new, nxt_set]; omega)) _)) (by first | omega | (simp only [go_sem]; omega)) au (by omega) au ⟨.own s1.nxt 0 1, .own (s.nxt + 1 + 1 + 1) 0 x.slts.length, rfl, .inr ⟨s1.nxt, _, by simp [hwe], by omega, (by first | (exact au) | (simp only [List.map_set, List.map_append, List.map_cons, List.map_nil]; exact au))⟩, .inr ⟨(s.nxt + 1 + 1 + 1), _, by simp, by omega, (by first | (exact au) | (simp only [List.map_set, List.map_append, List.map_cons, List.map_nil]; exact au))⟩⟩
              · have hc := hc6
                refine rs (k := rg [3, 4, 8, 10, 11, 12, 56, 130] (k := rc (ht := fun hc7 => ?_) (hf := fun hc7 => ?_)))
                · have hc := hc7
                  refine rs (k := rg [3, 4, 8, 10, 11, 138] (k := rc (ht := fun hc8 => ?_) (hf := fun hc8 => ?_)))
                  · have hc := hc8
                    exfalso
                    have h := of_decide_eq_true hc
                    first | omega | (simp at h; omega)
                  · have hc := hc8
                    refine rk (k := rB (k := ?_))
                    have hw9 : wv = 6 := by have h := of_decide_eq_true hc7; omega
                    subst hw9
                    refine rp [4, 8] (k := ?_)
                    refine hJb0 _ _ ⟨rfl, au, ?_⟩
                    rw [hodd, show oddG t k x 6 wi si at_ n = ⟨t.frame, t.tens.set k (⟨x.unit, x.fns, x.queue, x.wins, x.slts⟩ : Ten)⟩ by simp only [oddG, oddX, Int.reduceEq, reduceCtorEq, ↓reduceIte, List.append_nil, modF_ge (show x.wins.length ≤ wi by have := of_decide_eq_false hc8; first | omega | simp_all)]]
                    exact odd_done (by repeat (first | exact F1 | refine Fr.new ?_ _ | refine Fr.set ?_ (by omega) (by first | omega | (simp only [nxt_new, nxt_set]; omega)) _)) (by first | omega | (simp only [go_sem]; omega)) au (by omega) au ⟨.sl .clip [], .own (s.nxt + 1 + 1 + 1) 0 x.slts.length, rfl, .inl ⟨.clip, by simp [hwe]⟩, .inr ⟨(s.nxt + 1 + 1 + 1), _, by simp, by omega, (by first | (exact au) | (simp only [List.map_set, List.map_append, List.map_cons, List.map_nil]; exact au))⟩⟩
                · have hc := hc7
                  refine rs (k := rg [3, 4, 8, 10, 11, 12, 56, 147] (k := rc (ht := fun hc9 => ?_) (hf := fun hc9 => ?_)))
                  · have hc := hc9
                    refine rs (k := rg [3, 4, 8, 10, 11, 155] (k := rc (ht := fun hc10 => ?_) (hf := fun hc10 => ?_)))
                    · have hc := hc10
                      exfalso
                      have h := of_decide_eq_true hc
                      first | omega | (simp at h; omega)
                    · have hc := hc10
                      refine rk (k := rB (k := ?_))
                      have hw9 : wv = 7 := by have h := of_decide_eq_true hc9; omega
                      subst hw9
                      refine rp [4, 8] (k := ?_)
                      refine hJb0 _ _ ⟨rfl, au, ?_⟩
                      rw [hodd, show oddG t k x 7 wi si at_ n = ⟨t.frame, t.tens.set k (⟨x.unit, x.fns, x.queue, x.wins, x.slts⟩ : Ten)⟩ by simp only [oddG, oddX, Int.reduceEq, reduceCtorEq, ↓reduceIte, List.append_nil, modF_ge (show x.wins.length ≤ wi by have := of_decide_eq_false hc10; first | omega | simp_all)]]
                      exact odd_done (by repeat (first | exact F1 | refine Fr.new ?_ _ | refine Fr.set ?_ (by omega) (by first | omega | (simp only [nxt_new, nxt_set]; omega)) _)) (by first | omega | (simp only [go_sem]; omega)) au (by omega) au ⟨.sl .clip [], .own (s.nxt + 1 + 1 + 1) 0 x.slts.length, rfl, .inl ⟨.clip, by simp [hwe]⟩, .inr ⟨(s.nxt + 1 + 1 + 1), _, by simp, by omega, (by first | (exact au) | (simp only [List.map_set, List.map_append, List.map_cons, List.map_nil]; exact au))⟩⟩
                  · have hc := hc9
                    refine rs (k := rg [3, 4, 8, 10, 11, 12, 56, 164] (k := rc (ht := fun hc11 => ?_) (hf := fun hc11 => ?_)))
                    · have hc := hc11
                      refine rs (k := rg [3, 4, 8, 10, 11, 172] (k := rc (ht := fun hc12 => ?_) (hf := fun hc12 => ?_)))
                      · have hc := hc12
                        exfalso
                        have h := of_decide_eq_true hc
                        first | omega | (simp at h; omega)
                      · have hc := hc12
                        refine rk (k := rB (k := ?_))
                        have hw9 : wv = 8 := by have h := of_decide_eq_true hc11; omega
                        subst hw9
                        refine rp [4, 8] (k := ?_)
                        refine hJb0 _ _ ⟨rfl, au, ?_⟩
                        rw [hodd, show oddG t k x 8 wi si at_ n = ⟨t.frame, t.tens.set k (⟨x.unit, x.fns, x.queue, x.wins, x.slts⟩ : Ten)⟩ by simp only [oddG, oddX, Int.reduceEq, reduceCtorEq, ↓reduceIte, List.append_nil, modF_ge (show x.wins.length ≤ wi by have := of_decide_eq_false hc12; first | omega | simp_all)]]
                        exact odd_done (by repeat (first | exact F1 | refine Fr.new ?_ _ | refine Fr.set ?_ (by omega) (by first | omega | (simp only [nxt_new, nxt_set]; omega)) _)) (by first | omega | (simp only [go_sem]; omega)) au (by omega) au ⟨.sl .clip [], .own (s.nxt + 1 + 1 + 1) 0 x.slts.length, rfl, .inl ⟨.clip, by simp [hwe]⟩, .inr ⟨(s.nxt + 1 + 1 + 1), _, by simp, by omega, (by first | (exact au) | (simp only [List.map_set, List.map_append, List.map_cons, List.map_nil]; exact au))⟩⟩
                    · have hc := hc11
                      refine rs (k := rg [3, 4, 8, 10, 11, 12, 56, 181] (k := rc (ht := fun hc13 => ?_) (hf := fun hc13 => ?_)))
                      · have hc := hc13
                        refine rs (k := rg [3, 4, 8, 10, 12, 189] (k := rc (ht := fun hc14 => ?_) (hf := fun hc14 => ?_)))
                        · have hc := hc14
                          have hsl2 : si < x.slts.length := by have := of_decide_eq_true hc; omega
                          have hsi1 : ((si : Int) < (x.slts.length : Int)) = True := eq_true (by omega)
                          obtain ⟨a, hae⟩ : ∃ z_, x.slts[si]'hsl2 = z_ := ⟨_, rfl⟩
                          have hxa : (x.slts.map Slt.pv)[si]? = some (.agg [.int .i64 (a).pos, .int .i64 (a).len]) := by rw [map_get hsl2, hae]; rfl
                          have H := aj hsi1 (aj hxa H)
                          refine rg [4, 8] (k := rB (k := ?_))
                          have hw9 : wv = 9 := by have h := of_decide_eq_true hc13; omega
                          subst hw9
                          refine rp [4, 8] (k := ?_)
                          refine hJb0 _ _ ⟨rfl, au, ?_⟩
                          rw [hodd, show oddG t k x 9 wi si at_ n = ⟨t.frame, t.tens.set k (⟨x.unit, x.fns, x.queue, x.wins, x.slts.set si ⟨n, a.len⟩⟩ : Ten)⟩ by simp only [oddG, oddX, Int.reduceEq, reduceCtorEq, ↓reduceIte, List.append_nil, modF_lt hsl2 hae]]
                          exact odd_done (by repeat (first | exact F1 | refine Fr.new ?_ _ | refine Fr.set ?_ (by omega) (by first | omega | (simp only [nxt_new, nxt_set]; omega)) _)) (by first | omega | (simp only [go_sem]; omega)) au (by omega) au ⟨.sl .clip [], .own (s.nxt + 1 + 1 + 1) 0 x.slts.length, rfl, .inl ⟨.clip, by simp [hwe]⟩, .inr ⟨(s.nxt + 1 + 1 + 1), _, by simp, by omega, (by first | (exact au) | (simp only [List.map_set, List.map_append, List.map_cons, List.map_nil]; exact au))⟩⟩
                        · have hc := hc14
                          refine rk (k := rB (k := ?_))
                          have hw9 : wv = 9 := by have h := of_decide_eq_true hc13; omega
                          subst hw9
                          refine rp [4, 8] (k := ?_)
                          refine hJb0 _ _ ⟨rfl, au, ?_⟩
                          rw [hodd, show oddG t k x 9 wi si at_ n = ⟨t.frame, t.tens.set k (⟨x.unit, x.fns, x.queue, x.wins, x.slts⟩ : Ten)⟩ by simp only [oddG, oddX, Int.reduceEq, reduceCtorEq, ↓reduceIte, List.append_nil, modF_ge (show x.slts.length ≤ si by have := of_decide_eq_false hc14; first | omega | simp_all)]]
                          exact odd_done (by repeat (first | exact F1 | refine Fr.new ?_ _ | refine Fr.set ?_ (by omega) (by first | omega | (simp only [nxt_new, nxt_set]; omega)) _)) (by first | omega | (simp only [go_sem]; omega)) au (by omega) au ⟨.sl .clip [], .own (s.nxt + 1 + 1 + 1) 0 x.slts.length, rfl, .inl ⟨.clip, by simp [hwe]⟩, .inr ⟨(s.nxt + 1 + 1 + 1), _, by simp, by omega, (by first | (exact au) | (simp only [List.map_set, List.map_append, List.map_cons, List.map_nil]; exact au))⟩⟩
                      · have hc := hc13
                        refine rs (k := rg [3, 4, 8, 10, 11, 12, 56, 198] (k := rc (ht := fun hc15 => ?_) (hf := fun hc15 => ?_)))
                        · have hc := hc15
                          refine rs (k := rg [3, 4, 8, 10, 12, 206] (k := rc (ht := fun hc16 => ?_) (hf := fun hc16 => ?_)))
                          · have hc := hc16
                            have hsl2 : si < x.slts.length := by have := of_decide_eq_true hc; omega
                            have hsi1 : ((si : Int) < (x.slts.length : Int)) = True := eq_true (by omega)
                            obtain ⟨a, hae⟩ : ∃ z_, x.slts[si]'hsl2 = z_ := ⟨_, rfl⟩
                            have hxa : (x.slts.map Slt.pv)[si]? = some (.agg [.int .i64 (a).pos, .int .i64 (a).len]) := by rw [map_get hsl2, hae]; rfl
                            have H := aj hsi1 (aj hxa H)
                            refine rg [4, 8] (k := rB (k := ?_))
                            have hw9 : wv = 10 := by have h := of_decide_eq_true hc15; omega
                            subst hw9
                            refine rp [4, 8] (k := ?_)
                            refine hJb0 _ _ ⟨rfl, au, ?_⟩
                            rw [hodd, show oddG t k x 10 wi si at_ n = ⟨t.frame, t.tens.set k (⟨x.unit, x.fns, x.queue, x.wins, x.slts.set si ⟨a.pos, n⟩⟩ : Ten)⟩ by simp only [oddG, oddX, Int.reduceEq, reduceCtorEq, ↓reduceIte, List.append_nil, modF_lt hsl2 hae]]
                            exact odd_done (by repeat (first | exact F1 | refine Fr.new ?_ _ | refine Fr.set ?_ (by omega) (by first | omega | (simp only [nxt_new, nxt_set]; omega)) _)) (by first | omega | (simp only [go_sem]; omega)) au (by omega) au ⟨.sl .clip [], .own (s.nxt + 1 + 1 + 1) 0 x.slts.length, rfl, .inl ⟨.clip, by simp [hwe]⟩, .inr ⟨(s.nxt + 1 + 1 + 1), _, by simp, by omega, (by first | (exact au) | (simp only [List.map_set, List.map_append, List.map_cons, List.map_nil]; exact au))⟩⟩
                          · have hc := hc16
                            refine rk (k := rB (k := ?_))
                            have hw9 : wv = 10 := by have h := of_decide_eq_true hc15; omega
                            subst hw9
                            refine rp [4, 8] (k := ?_)
                            refine hJb0 _ _ ⟨rfl, au, ?_⟩
                            rw [hodd, show oddG t k x 10 wi si at_ n = ⟨t.frame, t.tens.set k (⟨x.unit, x.fns, x.queue, x.wins, x.slts⟩ : Ten)⟩ by simp only [oddG, oddX, Int.reduceEq, reduceCtorEq, ↓reduceIte, List.append_nil, modF_ge (show x.slts.length ≤ si by have := of_decide_eq_false hc16; first | omega | simp_all)]]
                            exact odd_done (by repeat (first | exact F1 | refine Fr.new ?_ _ | refine Fr.set ?_ (by omega) (by first | omega | (simp only [nxt_new, nxt_set]; omega)) _)) (by first | omega | (simp only [go_sem]; omega)) au (by omega) au ⟨.sl .clip [], .own (s.nxt + 1 + 1 + 1) 0 x.slts.length, rfl, .inl ⟨.clip, by simp [hwe]⟩, .inr ⟨(s.nxt + 1 + 1 + 1), _, by simp, by omega, (by first | (exact au) | (simp only [List.map_set, List.map_append, List.map_cons, List.map_nil]; exact au))⟩⟩
                        · have hc := hc15
                          refine rs (k := rg [3, 4, 8, 10, 11, 56, 215] (k := rc (ht := fun hc17 => ?_) (hf := fun hc17 => ?_)))
                          · have hc := hc17
                            refine Run.drawCut 6 [] Try.mixed (by kernel_rfl) (by kernel_rfl) ?_
                            refine DetC.all au ?_
                            refine RunO.appendOwn au au au Try.td22 (by rw [Try.zp43]; rfl) (fun p hp => by rw [List.mem_singleton.1 hp]; exact ⟨rfl, by rw [Try.cz43]; rfl⟩) (by rw [Try.by43]; decide) (by rw [Try.by43]; simp; omega) (v := .own s1.nxt 0 (t.tens.length + 1)) (s' := (s1.set (s.nxt + 1 + 1) none).new (.row 43 ((t.tens.map Ten.pv).set k (.agg [.int .i64 x.unit, .int .u32 x.fns, .int .i64 x.queue, .sl .clip [], .own (s.nxt + 1 + 1 + 1) 0 x.slts.length]) ++ [.agg [.int .i64 x.unit, .int .u32 x.fns, .int .i64 x.queue, .sl .clip [], .own (s.nxt + 1 + 1 + 1) 0 x.slts.length]]))) (by unfold aAppendOwn; rw [bA]; simp only [ne_eq, List.cons_ne_nil, not_false_eq_true, List.length_set, List.length_map, Nat.le_refl, and_self, if_true, List.length_cons, List.length_nil, Nat.zero_add]; rw [List.take_of_length_le (by simp)]) ?_
                            refine rh [4, 8] (k := rB (k := ?_))
                            have hw9 : wv = 11 := by have h := of_decide_eq_true hc17; omega
                            subst hw9
                            refine rp [4, 8] (k := ?_)
                            refine hJb0 _ _ ⟨rfl, au, ?_⟩
                            rw [hodd, show oddG t k x 11 wi si at_ n = ⟨t.frame, t.tens.set k (⟨x.unit, x.fns, x.queue, x.wins, x.slts⟩ : Ten) ++ [(⟨x.unit, x.fns, x.queue, x.wins, x.slts⟩ : Ten)]⟩ by simp only [oddG, oddX, Int.reduceEq, reduceCtorEq, ↓reduceIte, List.append_nil]]
                            exact odd_app (by repeat (first | exact F1 | refine Fr.new ?_ _ | refine Fr.set ?_ (by omega) (by first | omega | (simp only [nxt_new, nxt_set]; omega)) _)) (by first | omega | (simp only [go_sem]; omega)) au (by omega) au ⟨.sl .clip [], .own (s.nxt + 1 + 1 + 1) 0 x.slts.length, rfl, .inl ⟨.clip, by simp [hwe]⟩, .inr ⟨(s.nxt + 1 + 1 + 1), _, by simp, by omega, (by first | (exact au) | (simp only [List.map_set, List.map_append, List.map_cons, List.map_nil]; exact au))⟩⟩
                          · have hc := hc17
                            refine rs (k := rg [3, 4, 8, 10, 11, 225] (k := rc (ht := fun hc18 => ?_) (hf := fun hc18 => ?_)))
                            · have hc := hc18
                              refine rg [4, 8] (k := rB (k := ?_))
                              have hw9 : wv = 12 := by have h := of_decide_eq_true hc18; omega
                              subst hw9
                              refine rp [4, 8] (k := ?_)
                              refine hJb0 _ _ ⟨rfl, au, ?_⟩
                              rw [hodd, show oddG t k x 12 wi si at_ n = ⟨t.frame, t.tens.set k (⟨x.unit, x.fns, x.queue, x.wins, []⟩ : Ten)⟩ by simp only [oddG, oddX, Int.reduceEq, reduceCtorEq, ↓reduceIte, List.append_nil]]
                              exact odd_done (by repeat (first | exact F1 | refine Fr.new ?_ _ | refine Fr.set ?_ (by omega) (by first | omega | (simp only [nxt_new, nxt_set]; omega)) _)) (by first | omega | (simp only [go_sem]; omega)) au (by omega) au ⟨.sl .clip [], .sl .nil [], rfl, .inl ⟨.clip, by simp [hwe]⟩, .inl ⟨.nil, rfl⟩⟩
                            · have hc := hc18
                              refine rs (k := rg [3, 4, 8, 10, 11, 63] (k := rc (ht := fun hc19 => ?_) (hf := fun hc19 => ?_)))
                              · have hc := hc19
                                exfalso
                                have h := of_decide_eq_true hc
                                first | omega | (simp at h; omega)
                              · have hc := hc19
                                refine rk (k := rB (k := ?_))
                                have hw9 : wv = 13 := by have := of_decide_eq_false hc1; have := of_decide_eq_false hc2; have := of_decide_eq_false hc3; have := of_decide_eq_false hc4; have := of_decide_eq_false hc5; have := of_decide_eq_false hc6; have := of_decide_eq_false hc7; have := of_decide_eq_false hc9; have := of_decide_eq_false hc11; have := of_decide_eq_false hc13; have := of_decide_eq_false hc15; have := of_decide_eq_false hc17; have := of_decide_eq_false hc18; omega
                                subst hw9
                                refine rp [4, 8] (k := ?_)
                                refine hJb0 _ _ ⟨rfl, au, ?_⟩
                                rw [hodd, show oddG t k x 13 wi si at_ n = ⟨t.frame, t.tens.set k (⟨x.unit, x.fns, x.queue, x.wins, x.slts⟩ : Ten)⟩ by simp only [oddG, oddX, Int.reduceEq, reduceCtorEq, ↓reduceIte, List.append_nil, modF_ge (show x.wins.length ≤ wi by have := of_decide_eq_false hc19; first | omega | simp_all)]]
                                exact odd_done (by repeat (first | exact F1 | refine Fr.new ?_ _ | refine Fr.set ?_ (by omega) (by first | omega | (simp only [nxt_new, nxt_set]; omega)) _)) (by first | omega | (simp only [go_sem]; omega)) au (by omega) au ⟨.sl .clip [], .own (s.nxt + 1 + 1 + 1) 0 x.slts.length, rfl, .inl ⟨.clip, by simp [hwe]⟩, .inr ⟨(s.nxt + 1 + 1 + 1), _, by simp, by omega, (by first | (exact au) | (simp only [List.map_set, List.map_append, List.map_cons, List.map_nil]; exact au))⟩⟩
set_option maxRecDepth 100000 in
theorem odd_nn {t : Tab} {m : Nat} (hm : m ≤ 1000) (ht : t.few m) {what at_ n : Int} (hwI : I64 what) (haI : I64 at_) (hnI : I64 n) {k : Nat} (hkw : withinI at_ 0 (t.tens.length - 1) = k) (hkl : k < t.tens.length) {x : Ten} (hxe : t.tens[k] = x) (hwe : x.wins = []) (hse : x.slts = []) {s : St} : ACalls Try.prog 11 [t.pv, .int .i64 what, .int .i64 at_, .int .i64 n] s (fun r s' => r = (oddF t what at_ n).pv ∧ s' = s) := by
  refine go Try.func11 (k := fun hwf H => ?_)
  have hnt := ht.nt
  have hxm : x ∈ t.tens := by rw [← hxe]; exact List.getElem_mem _
  have hnw := ht.nw x hxm
  have hns := ht.ns x hxm
  have hte : t.tens ≠ [] := fun h => by rw [h] at hkl; simp at hkl
  have hxx : (t.tens.map Ten.pv)[k]? = some (.agg [.int .i64 (x).unit, .int .u32 (x).fns, .int .i64 (x).queue, .sl .unk ((x).wins.map Win.pv), .sl .unk ((x).slts.map Slt.pv)]) := by rw [map_get hkl, hxe]; rfl
  have hgs : ∀ X, ((t.tens.map Ten.pv).set k X)[k]? = some X := fun X => by rw [List.getElem?_set]; simp [hkl]
  have hwl : IntKind.i64.wrap ((t.tens.length : Int) - 1) = (t.tens.length : Int) - 1 := wrap_i64 (by omega)
  have htl0 : ((t.tens.length : Int) = 0) = False := eq_false (by omega)
  have hk2 : ((k : Int) < (t.tens.length : Int)) = True := eq_true (by omega)
  have H := aj hgs (aj hwl (aj hkw (aj hk2 (aj htl0 (aj hwe (aj hse H))))))
  refine rs (k := rg [1, 2, 3, 4, 8] (k := rs (k := rr (k := rO (k := ro (pre := [_, _]) (k := ?_))))))
  refine RunO.appendFirst au au au Try.td22 (by rw [Try.zp43]; rfl) (isEls_none _ _) (isEls_map (f := Ten.pv) (fun a => ⟨rfl, by rw [Try.cz43]; rfl⟩) _) (by rw [Try.by43]; decide) (by rw [Try.by43]; simp; omega) (by simp only [aAppendFirst, List.map_eq_nil_iff, ne_eq, hte, not_false_eq_true, if_true, List.length_nil, Nat.zero_add, List.length_map, List.nil_append, go_sem]; rfl) ?_
  refine rh [1, 2, 3, 4, 8] (k := rs (k := rs (k := rg [1, 2, 3, 4, 8, 21] (k := rc (ht := fun hc0 => ?_) (hf := fun hc0 => ?_)))))
  · cases hc0
  · have hc := hc0
    refine rk (k := rs (k := rr (k := ro (pre := [_, _, _, _, _]) (k := rC (h := within_ (lo := 0) (hi := (t.tens.length : Int) - 1) (by decide) (by omega) (by omega)) (k := rh [1, 2, 3, 4, 8, 9] (k := rs (k := rg [1, 2, 3, 4, 8, 10] (k := rs (k := ?_)))))))))
    have H := aj hxx H
    refine rr (k := ro (pre := [_]) (k := rO (k := ro (pre := [_, _, _, _]) (k := ?_))))
    refine RunO.append au au au Try.td40 (by rw [Try.zp45]; rfl) (isEls_none _ _) (isEls_none _ _) (by rw [Try.by45]; decide) (by simp) (v := .sl .clip []) (by unfold aAppend; rw [if_pos rfl]) ?_
    refine rh [1, 2, 3, 4, 8, 10] (k := rs (k := rr (k := ro (pre := [_]) (k := rO (k := ro (pre := [_, _, _, _]) (k := ?_))))))
    refine RunO.append au au au Try.td41 (by rw [Try.zp48]; rfl) (isEls_none _ _) (isEls_none _ _) (by rw [Try.by48]; decide) (by simp) (v := .sl .clip []) (by unfold aAppend; rw [if_pos rfl]) ?_
    refine rh [1, 2, 3, 4, 8, 10] (k := rs (k := ?_))
    refine Run.abs (fun s1 => Fr s s1 ∧ s1.nxt = s.nxt + 1 + 1 + 1 ∧ s1.blk s.nxt = some (.row 24 [.agg [.int .i64 t.frame, .own (s.nxt + 1 + 1) 0 t.tens.length]]) ∧ s1.blk (s.nxt + 1) = some (.row 24 [.agg [.int .i64 0, .sl .nil []]]) ∧ s1.blk (s.nxt + 1 + 1) = some (.row 43 ((t.tens.map Ten.pv).set k (.agg [.int .i64 x.unit, .int .u32 x.fns, .int .i64 x.queue, .sl .clip [], .sl .clip []])))) ⟨by repeat (first | exact Fr.refl hwf | refine Fr.new ?_ _ | refine Fr.set ?_ (by omega) (by simp only [nxt_new, nxt_set]; omega) _), by simp only [go_sem], by simp only [go_sem, ↓reduceIte, Nat.reduceEqDiff, Nat.reduceAdd], by simp only [go_sem, ↓reduceIte, Nat.reduceEqDiff, Nat.reduceAdd], by simp only [go_sem, ↓reduceIte, Nat.reduceEqDiff, Nat.reduceAdd]⟩ ?_
    rintro s1 ⟨F1, hn1, b4, b8, bA⟩
    have hwi0 := withinI_bound (n := n) (lo := 0) (hi := 5) (by decide)
    have hsi0 := withinI_bound (n := n) (lo := 0) (hi := 2) (by decide)
    obtain ⟨wi, hwi⟩ : ∃ y : Nat, withinI n 0 5 = y := ⟨_, (Int.toNat_of_nonneg hwi0.1).symm⟩
    obtain ⟨si, hsi⟩ : ∃ y : Nat, withinI n 0 2 = y := ⟨_, (Int.toNat_of_nonneg hsi0.1).symm⟩
    have z0 : (s.nxt = s1.nxt) = False := eq_false (by omega)
    have z1 : (s.nxt + 1 = s1.nxt) = False := eq_false (by omega)
    have z2 : (s.nxt + 1 + 1 = s1.nxt) = False := eq_false (by omega)
    have y0 : (s1.nxt = s.nxt) = False := eq_false (by omega)
    have y1 : (s1.nxt = s.nxt + 1) = False := eq_false (by omega)
    have y2 : (s1.nxt = s.nxt + 1 + 1) = False := eq_false (by omega)
    have H := aj b4 (aj b8 (aj bA (aj hwi (aj hsi (aj z0 (aj z1 (aj z2 (aj y0 (aj y1 (aj y2 H))))))))))
    refine rr (k := ro (pre := [_]) (k := rC (h := within_ (lo := 0) (hi := 5) (by decide) (by decide) (by decide)) (k := ro (pre := [_]) (k := rC (h := within_ (lo := 0) (hi := 2) (by decide) (by decide) (by decide)) (k := rh [1, 2, 3, 4, 8, 10, 11, 12] (k := rs (k := rs (k := rr (k := ro (pre := [_]) (k := rC (h := within_ (lo := 0) (hi := 13) (by decide) (by decide) (by decide)) (k := ?_)))))))))))
    refine rl [2, 3, 4, 8, 10, 11, 12, 56] (k := ?_)
    refine Run.join (fun e s' => e = [(4, .ptr s.nxt 0 0), (8, .ptr (s.nxt + 1) 0 0)] ∧ s'.blk (s.nxt + 1) = some (.row 24 [.agg [.int .i64 0, .sl .nil []]]) ∧ OddR s s' (oddF t what at_ n)) ?_ ?_
    · rintro e s2 ⟨rfl, r0, hO⟩
      obtain ⟨A', els, r1, r2, r3, r4, r5⟩ := hO.row
      have H := aj r0 (aj r1 H)
      refine rs (k := rg [8] (k := rR (k := ?_)))
      exact Ret.pureF (r' := (oddF t what at_ n).pv) 7 (by simp only [Try.f11, go_sem, ↓reduceIte, r0, r1] <;> rfl) ((hO.set _).frz (by simp only [go_sem, ↓reduceIte]; exact r1)) (blw_tab _ _) hwf (hO.set _).fr.blk ⟨rfl, rfl⟩
    intro hJb0
    refine rb (k := rs (k := ?_))
    obtain ⟨wv, hwv⟩ : ∃ y, withinI what 0 13 = y := ⟨_, rfl⟩
    have hwb := withinI_bound (n := what) (lo := 0) (hi := 13) (by decide)
    have hodd := oddF_eq hkw hkl hxe hwv hwi hsi (at_ := at_)
    rw [hwv]
    rw [hwv] at hwb
    refine rg [2, 3, 4, 8, 10, 11, 12, 56, 73] (k := rc (ht := fun hc1 => ?_) (hf := fun hc1 => ?_))
    · have hc := hc1
      refine rg [4, 8] (k := rB (k := ?_))
      have hw9 : wv = 0 := by have h := of_decide_eq_true hc1; omega
      subst hw9
      refine rp [4, 8] (k := ?_)
      refine hJb0 _ _ ⟨rfl, au, ?_⟩
      rw [hodd, show oddG t k x 0 wi si at_ n = ⟨n, t.tens.set k (⟨x.unit, x.fns, x.queue, x.wins, x.slts⟩ : Ten)⟩ by simp only [oddG, oddX, Int.reduceEq, reduceCtorEq, ↓reduceIte, List.append_nil]]
      exact odd_done (by repeat (first | exact F1 | refine Fr.new ?_ _ | refine Fr.set ?_ (by omega) (by first | omega | (simp only [nxt_new, nxt_set]; omega)) _)) (by first | omega | (simp only [go_sem]; omega)) au (by omega) au ⟨.sl .clip [], .sl .clip [], rfl, .inl ⟨.clip, by simp [hwe]⟩, .inl ⟨.clip, by simp [hse]⟩⟩
    · have hc := hc1
      refine rs (k := rg [2, 3, 4, 8, 10, 11, 12, 56, 77] (k := rc (ht := fun hc2 => ?_) (hf := fun hc2 => ?_)))
      · have hc := hc2
        refine rg [4, 8] (k := rB (k := ?_))
        have hw9 : wv = 1 := by have h := of_decide_eq_true hc2; omega
        subst hw9
        refine rp [4, 8] (k := ?_)
        refine hJb0 _ _ ⟨rfl, au, ?_⟩
        rw [hodd, show oddG t k x 1 wi si at_ n = ⟨t.frame, t.tens.set k (⟨n, x.fns, x.queue, x.wins, x.slts⟩ : Ten)⟩ by simp only [oddG, oddX, Int.reduceEq, reduceCtorEq, ↓reduceIte, List.append_nil]]
        exact odd_done (by repeat (first | exact F1 | refine Fr.new ?_ _ | refine Fr.set ?_ (by omega) (by first | omega | (simp only [nxt_new, nxt_set]; omega)) _)) (by first | omega | (simp only [go_sem]; omega)) au (by omega) au ⟨.sl .clip [], .sl .clip [], rfl, .inl ⟨.clip, by simp [hwe]⟩, .inl ⟨.clip, by simp [hse]⟩⟩
      · have hc := hc2
        refine rs (k := rg [2, 3, 4, 8, 10, 11, 12, 56, 83] (k := rc (ht := fun hc3 => ?_) (hf := fun hc3 => ?_)))
        · have hc := hc3
          refine rg [4, 8] (k := rB (k := ?_))
          have hw9 : wv = 2 := by have h := of_decide_eq_true hc3; omega
          subst hw9
          refine rp [4, 8] (k := ?_)
          refine hJb0 _ _ ⟨rfl, au, ?_⟩
          rw [hodd, show oddG t k x 2 wi si at_ n = ⟨t.frame, t.tens.set k (⟨x.unit, x.fns, n, x.wins, x.slts⟩ : Ten)⟩ by simp only [oddG, oddX, Int.reduceEq, reduceCtorEq, ↓reduceIte, List.append_nil]]
          exact odd_done (by repeat (first | exact F1 | refine Fr.new ?_ _ | refine Fr.set ?_ (by omega) (by first | omega | (simp only [nxt_new, nxt_set]; omega)) _)) (by first | omega | (simp only [go_sem]; omega)) au (by omega) au ⟨.sl .clip [], .sl .clip [], rfl, .inl ⟨.clip, by simp [hwe]⟩, .inl ⟨.clip, by simp [hse]⟩⟩
        · have hc := hc3
          refine rs (k := rg [2, 3, 4, 8, 10, 11, 12, 56, 89] (k := rc (ht := fun hc4 => ?_) (hf := fun hc4 => ?_)))
          · have hc := hc4
            refine rg [4, 8] (k := rB (k := ?_))
            have hw9 : wv = 3 := by have h := of_decide_eq_true hc4; omega
            subst hw9
            refine rp [4, 8] (k := ?_)
            refine hJb0 _ _ ⟨rfl, au, ?_⟩
            rw [hodd, show oddG t k x 3 wi si at_ n = ⟨t.frame, t.tens.set k (⟨x.unit, IntKind.u32.wrap n, x.queue, x.wins, x.slts⟩ : Ten)⟩ by simp only [oddG, oddX, Int.reduceEq, reduceCtorEq, ↓reduceIte, List.append_nil]]
            exact odd_done (by repeat (first | exact F1 | refine Fr.new ?_ _ | refine Fr.set ?_ (by omega) (by first | omega | (simp only [nxt_new, nxt_set]; omega)) _)) (by first | omega | (simp only [go_sem]; omega)) au (by omega) au ⟨.sl .clip [], .sl .clip [], rfl, .inl ⟨.clip, by simp [hwe]⟩, .inl ⟨.clip, by simp [hse]⟩⟩
          · have hc := hc4
            refine rs (k := rg [2, 3, 4, 8, 10, 11, 12, 56, 96] (k := rc (ht := fun hc5 => ?_) (hf := fun hc5 => ?_)))
            · have hc := hc5
              refine rr (k := ro (pre := [_, _, _, _, _, _, _]) (k := rO (k := ?_)))
              refine RunO.appendFirst au au au Try.td41 (by rw [Try.zp48]; rfl) (isEls_none _ _) (isEls_map (f := Slt.pv) (fun a => ⟨rfl, by rw [Try.cz48]; rfl⟩) [⟨n, 72⟩]) (by rw [Try.by48]; decide) (by rw [Try.by48]; simp) (v := .own s1.nxt 0 1) (s' := s1.new (.row 48 [.agg [.int .i64 n, .int .i64 72]])) (by simp [aAppendFirst, Slt.pv, Win.pv]) ?_
              refine rh [4, 8] (k := rB (k := ?_))
              have hw9 : wv = 4 := by have h := of_decide_eq_true hc5; omega
              subst hw9
              refine rp [4, 8] (k := ?_)
              refine hJb0 _ _ ⟨rfl, au, ?_⟩
              rw [hodd, show oddG t k x 4 wi si at_ n = ⟨t.frame, t.tens.set k (⟨x.unit, x.fns, x.queue, x.wins, x.slts ++ [⟨n, 72⟩]⟩ : Ten)⟩ by simp only [oddG, oddX, Int.reduceEq, reduceCtorEq, ↓reduceIte, List.append_nil]]
              exact odd_done (by repeat (first | exact F1 | refine Fr.new ?_ _ | refine Fr.set ?_ (by omega) (by first | omega | (simp only [nxt_new, nxt_set]; omega)) _)) (by first | omega | (simp only [go_sem]; omega)) au (by omega) au ⟨.sl .clip [], .own s1.nxt 0 1, rfl, .inl ⟨.clip, by simp [hwe]⟩, .inr ⟨s1.nxt, _, by simp [hse], by omega, (by first | (exact au) | (simp only [List.map_set, List.map_append, List.map_cons, List.map_nil]; exact au))⟩⟩
            · have hc := hc5
              refine rs (k := rg [2, 3, 4, 8, 10, 11, 12, 56, 109] (k := rc (ht := fun hc6 => ?_) (hf := fun hc6 => ?_)))
              · have hc := hc6
                have hb0 := ibits_and_le n 3 (by decide)
                have hb1 := ibits_and_le at_ 1023 (by decide)
                have hb2 := ibits_and_le n 511 (by decide)
                have hb3 := ibits_and_le at_ 31 (by decide)
                obtain ⟨g0, hg0⟩ : ∃ y, ibits .and .i64 n 3 = y := ⟨_, rfl⟩
                obtain ⟨g1, hg1⟩ : ∃ y, ibits .and .i64 at_ 1023 = y := ⟨_, rfl⟩
                obtain ⟨g2, hg2⟩ : ∃ y, ibits .and .i64 n 511 = y := ⟨_, rfl⟩
                obtain ⟨g4, hg4⟩ : ∃ y, ibits .and .i64 at_ 31 = y := ⟨_, rfl⟩
                have hb0 : 0 ≤ g0 ∧ g0 ≤ 3 := hg0 ▸ hb0
                have hb1 : 0 ≤ g1 ∧ g1 ≤ 1023 := hg1 ▸ hb1
                have hb2 : 0 ≤ g2 ∧ g2 ≤ 511 := hg2 ▸ hb2
                have hb3 : 0 ≤ g4 ∧ g4 ≤ 31 := hg4 ▸ hb3
                have hg3 : IntKind.i64.wrap (1 + g4) = 1 + g4 := wrap_i64 (by omega)
                have H := aj hg0 (aj hg1 (aj hg2 (aj hg4 (aj hg3 H))))
                refine rr (k := ro (pre := [_, _, _, _, _, _, _, _, _, _, _, _, _, _, _]) (k := rO (k := ?_)))
                refine RunO.appendFirst au au au Try.td40 (by rw [Try.zp45]; rfl) (isEls_none _ _) (isEls_map (f := Win.pv) (fun a => ⟨rfl, by rw [Try.cz45]; rfl⟩) [⟨g0, g1, g2, 1 + g4⟩]) (by rw [Try.by45]; decide) (by rw [Try.by45]; simp) (v := .own s1.nxt 0 1) (s' := s1.new (.row 45 [.agg [.int .i64 g0, .int .i64 g1, .int .i64 g2, .int .i64 (1 + g4)]])) (by simp [aAppendFirst, Slt.pv, Win.pv]) ?_
                refine rh [4, 8] (k := rB (k := ?_))
                have hw9 : wv = 5 := by have h := of_decide_eq_true hc6; omega
                subst hw9
                refine rp [4, 8] (k := ?_)
                refine hJb0 _ _ ⟨rfl, au, ?_⟩
                rw [hodd, show oddG t k x 5 wi si at_ n = ⟨t.frame, t.tens.set k (⟨x.unit, x.fns, x.queue, x.wins ++ [⟨g0, g1, g2, 1 + g4⟩], x.slts⟩ : Ten)⟩ by simp only [oddG, oddX, Int.reduceEq, reduceCtorEq, ↓reduceIte, List.append_nil, hg0, hg1, hg2, hg4]]
                exact odd_done (by repeat (first | exact F1 | refine Fr.new ?_ _ | refine Fr.set ?_ (by omega) (by first | omega | (simp only [nxt_new, nxt_set]; omega)) _)) (by first | omega | (simp only [go_sem]; omega)) au (by omega) au ⟨.own s1.nxt 0 1, .sl .clip [], rfl, .inr ⟨s1.nxt, _, by simp [hwe], by omega, (by first | (exact au) | (simp only [List.map_set, List.map_append, List.map_cons, List.map_nil]; exact au))⟩, .inl ⟨.clip, by simp [hse]⟩⟩
              · have hc := hc6
                refine rs (k := rg [3, 4, 8, 10, 11, 12, 56, 130] (k := rc (ht := fun hc7 => ?_) (hf := fun hc7 => ?_)))
                · have hc := hc7
                  refine rs (k := rg [3, 4, 8, 10, 11, 138] (k := rc (ht := fun hc8 => ?_) (hf := fun hc8 => ?_)))
                  · have hc := hc8
                    exfalso
                    have h := of_decide_eq_true hc
                    first | omega | (simp at h; omega)
                  · have hc := hc8
                    refine rk (k := rB (k := ?_))
                    have hw9 : wv = 6 := by have h := of_decide_eq_true hc7; omega
                    subst hw9
                    refine rp [4, 8] (k := ?_)
                    refine hJb0 _ _ ⟨rfl, au, ?_⟩
                    rw [hodd, show oddG t k x 6 wi si at_ n = ⟨t.frame, t.tens.set k (⟨x.unit, x.fns, x.queue, x.wins, x.slts⟩ : Ten)⟩ by simp only [oddG, oddX, Int.reduceEq, reduceCtorEq, ↓reduceIte, List.append_nil, modF_ge (show x.wins.length ≤ wi by have := of_decide_eq_false hc8; first | omega | simp_all)]]
                    exact odd_done (by repeat (first | exact F1 | refine Fr.new ?_ _ | refine Fr.set ?_ (by omega) (by first | omega | (simp only [nxt_new, nxt_set]; omega)) _)) (by first | omega | (simp only [go_sem]; omega)) au (by omega) au ⟨.sl .clip [], .sl .clip [], rfl, .inl ⟨.clip, by simp [hwe]⟩, .inl ⟨.clip, by simp [hse]⟩⟩
                · have hc := hc7
                  refine rs (k := rg [3, 4, 8, 10, 11, 12, 56, 147] (k := rc (ht := fun hc9 => ?_) (hf := fun hc9 => ?_)))
                  · have hc := hc9
                    refine rs (k := rg [3, 4, 8, 10, 11, 155] (k := rc (ht := fun hc10 => ?_) (hf := fun hc10 => ?_)))
                    · have hc := hc10
                      exfalso
                      have h := of_decide_eq_true hc
                      first | omega | (simp at h; omega)
                    · have hc := hc10
                      refine rk (k := rB (k := ?_))
                      have hw9 : wv = 7 := by have h := of_decide_eq_true hc9; omega
                      subst hw9
                      refine rp [4, 8] (k := ?_)
                      refine hJb0 _ _ ⟨rfl, au, ?_⟩
                      rw [hodd, show oddG t k x 7 wi si at_ n = ⟨t.frame, t.tens.set k (⟨x.unit, x.fns, x.queue, x.wins, x.slts⟩ : Ten)⟩ by simp only [oddG, oddX, Int.reduceEq, reduceCtorEq, ↓reduceIte, List.append_nil, modF_ge (show x.wins.length ≤ wi by have := of_decide_eq_false hc10; first | omega | simp_all)]]
                      exact odd_done (by repeat (first | exact F1 | refine Fr.new ?_ _ | refine Fr.set ?_ (by omega) (by first | omega | (simp only [nxt_new, nxt_set]; omega)) _)) (by first | omega | (simp only [go_sem]; omega)) au (by omega) au ⟨.sl .clip [], .sl .clip [], rfl, .inl ⟨.clip, by simp [hwe]⟩, .inl ⟨.clip, by simp [hse]⟩⟩
                  · have hc := hc9
                    refine rs (k := rg [3, 4, 8, 10, 11, 12, 56, 164] (k := rc (ht := fun hc11 => ?_) (hf := fun hc11 => ?_)))
                    · have hc := hc11
                      refine rs (k := rg [3, 4, 8, 10, 11, 172] (k := rc (ht := fun hc12 => ?_) (hf := fun hc12 => ?_)))
                      · have hc := hc12
                        exfalso
                        have h := of_decide_eq_true hc
                        first | omega | (simp at h; omega)
                      · have hc := hc12
                        refine rk (k := rB (k := ?_))
                        have hw9 : wv = 8 := by have h := of_decide_eq_true hc11; omega
                        subst hw9
                        refine rp [4, 8] (k := ?_)
                        refine hJb0 _ _ ⟨rfl, au, ?_⟩
                        rw [hodd, show oddG t k x 8 wi si at_ n = ⟨t.frame, t.tens.set k (⟨x.unit, x.fns, x.queue, x.wins, x.slts⟩ : Ten)⟩ by simp only [oddG, oddX, Int.reduceEq, reduceCtorEq, ↓reduceIte, List.append_nil, modF_ge (show x.wins.length ≤ wi by have := of_decide_eq_false hc12; first | omega | simp_all)]]
                        exact odd_done (by repeat (first | exact F1 | refine Fr.new ?_ _ | refine Fr.set ?_ (by omega) (by first | omega | (simp only [nxt_new, nxt_set]; omega)) _)) (by first | omega | (simp only [go_sem]; omega)) au (by omega) au ⟨.sl .clip [], .sl .clip [], rfl, .inl ⟨.clip, by simp [hwe]⟩, .inl ⟨.clip, by simp [hse]⟩⟩
                    · have hc := hc11
                      refine rs (k := rg [3, 4, 8, 10, 11, 12, 56, 181] (k := rc (ht := fun hc13 => ?_) (hf := fun hc13 => ?_)))
                      · have hc := hc13
                        refine rs (k := rg [3, 4, 8, 10, 12, 189] (k := rc (ht := fun hc14 => ?_) (hf := fun hc14 => ?_)))
                        · have hc := hc14
                          exfalso
                          have h := of_decide_eq_true hc
                          first | omega | (simp at h; omega)
                        · have hc := hc14
                          refine rk (k := rB (k := ?_))
                          have hw9 : wv = 9 := by have h := of_decide_eq_true hc13; omega
                          subst hw9
                          refine rp [4, 8] (k := ?_)
                          refine hJb0 _ _ ⟨rfl, au, ?_⟩
                          rw [hodd, show oddG t k x 9 wi si at_ n = ⟨t.frame, t.tens.set k (⟨x.unit, x.fns, x.queue, x.wins, x.slts⟩ : Ten)⟩ by simp only [oddG, oddX, Int.reduceEq, reduceCtorEq, ↓reduceIte, List.append_nil, modF_ge (show x.slts.length ≤ si by have := of_decide_eq_false hc14; first | omega | simp_all)]]
                          exact odd_done (by repeat (first | exact F1 | refine Fr.new ?_ _ | refine Fr.set ?_ (by omega) (by first | omega | (simp only [nxt_new, nxt_set]; omega)) _)) (by first | omega | (simp only [go_sem]; omega)) au (by omega) au ⟨.sl .clip [], .sl .clip [], rfl, .inl ⟨.clip, by simp [hwe]⟩, .inl ⟨.clip, by simp [hse]⟩⟩
                      · have hc := hc13
                        refine rs (k := rg [3, 4, 8, 10, 11, 12, 56, 198] (k := rc (ht := fun hc15 => ?_) (hf := fun hc15 => ?_)))
                        · have hc := hc15
                          refine rs (k := rg [3, 4, 8, 10, 12, 206] (k := rc (ht := fun hc16 => ?_) (hf := fun hc16 => ?_)))
                          · have hc := hc16
                            exfalso
                            have h := of_decide_eq_true hc
                            first | omega | (simp at h; omega)
                          · have hc := hc16
                            refine rk (k := rB (k := ?_))
                            have hw9 : wv = 10 := by have h := of_decide_eq_true hc15; omega
                            subst hw9
                            refine rp [4, 8] (k := ?_)
                            refine hJb0 _ _ ⟨rfl, au, ?_⟩
                            rw [hodd, show oddG t k x 10 wi si at_ n = ⟨t.frame, t.tens.set k (⟨x.unit, x.fns, x.queue, x.wins, x.slts⟩ : Ten)⟩ by simp only [oddG, oddX, Int.reduceEq, reduceCtorEq, ↓reduceIte, List.append_nil, modF_ge (show x.slts.length ≤ si by have := of_decide_eq_false hc16; first | omega | simp_all)]]
                            exact odd_done (by repeat (first | exact F1 | refine Fr.new ?_ _ | refine Fr.set ?_ (by omega) (by first | omega | (simp only [nxt_new, nxt_set]; omega)) _)) (by first | omega | (simp only [go_sem]; omega)) au (by omega) au ⟨.sl .clip [], .sl .clip [], rfl, .inl ⟨.clip, by simp [hwe]⟩, .inl ⟨.clip, by simp [hse]⟩⟩
                        · have hc := hc15
                          refine rs (k := rg [3, 4, 8, 10, 11, 56, 215] (k := rc (ht := fun hc17 => ?_) (hf := fun hc17 => ?_)))
                          · have hc := hc17
                            refine Run.drawCut 6 [] Try.mixed (by kernel_rfl) (by kernel_rfl) ?_
                            refine DetC.all au ?_
                            refine RunO.appendOwn au au au Try.td22 (by rw [Try.zp43]; rfl) (fun p hp => by rw [List.mem_singleton.1 hp]; exact ⟨rfl, by rw [Try.cz43]; rfl⟩) (by rw [Try.by43]; decide) (by rw [Try.by43]; simp; omega) (v := .own s1.nxt 0 (t.tens.length + 1)) (s' := (s1.set (s.nxt + 1 + 1) none).new (.row 43 ((t.tens.map Ten.pv).set k (.agg [.int .i64 x.unit, .int .u32 x.fns, .int .i64 x.queue, .sl .clip [], .sl .clip []]) ++ [.agg [.int .i64 x.unit, .int .u32 x.fns, .int .i64 x.queue, .sl .clip [], .sl .clip []]]))) (by unfold aAppendOwn; rw [bA]; simp only [ne_eq, List.cons_ne_nil, not_false_eq_true, List.length_set, List.length_map, Nat.le_refl, and_self, if_true, List.length_cons, List.length_nil, Nat.zero_add]; rw [List.take_of_length_le (by simp)]) ?_
                            refine rh [4, 8] (k := rB (k := ?_))
                            have hw9 : wv = 11 := by have h := of_decide_eq_true hc17; omega
                            subst hw9
                            refine rp [4, 8] (k := ?_)
                            refine hJb0 _ _ ⟨rfl, au, ?_⟩
                            rw [hodd, show oddG t k x 11 wi si at_ n = ⟨t.frame, t.tens.set k (⟨x.unit, x.fns, x.queue, x.wins, x.slts⟩ : Ten) ++ [(⟨x.unit, x.fns, x.queue, x.wins, x.slts⟩ : Ten)]⟩ by simp only [oddG, oddX, Int.reduceEq, reduceCtorEq, ↓reduceIte, List.append_nil]]
                            exact odd_app (by repeat (first | exact F1 | refine Fr.new ?_ _ | refine Fr.set ?_ (by omega) (by first | omega | (simp only [nxt_new, nxt_set]; omega)) _)) (by first | omega | (simp only [go_sem]; omega)) au (by omega) au ⟨.sl .clip [], .sl .clip [], rfl, .inl ⟨.clip, by simp [hwe]⟩, .inl ⟨.clip, by simp [hse]⟩⟩
                          · have hc := hc17
                            refine rs (k := rg [3, 4, 8, 10, 11, 225] (k := rc (ht := fun hc18 => ?_) (hf := fun hc18 => ?_)))
                            · have hc := hc18
                              refine rg [4, 8] (k := rB (k := ?_))
                              have hw9 : wv = 12 := by have h := of_decide_eq_true hc18; omega
                              subst hw9
                              refine rp [4, 8] (k := ?_)
                              refine hJb0 _ _ ⟨rfl, au, ?_⟩
                              rw [hodd, show oddG t k x 12 wi si at_ n = ⟨t.frame, t.tens.set k (⟨x.unit, x.fns, x.queue, x.wins, []⟩ : Ten)⟩ by simp only [oddG, oddX, Int.reduceEq, reduceCtorEq, ↓reduceIte, List.append_nil]]
                              exact odd_done (by repeat (first | exact F1 | refine Fr.new ?_ _ | refine Fr.set ?_ (by omega) (by first | omega | (simp only [nxt_new, nxt_set]; omega)) _)) (by first | omega | (simp only [go_sem]; omega)) au (by omega) au ⟨.sl .clip [], .sl .nil [], rfl, .inl ⟨.clip, by simp [hwe]⟩, .inl ⟨.nil, rfl⟩⟩
                            · have hc := hc18
                              refine rs (k := rg [3, 4, 8, 10, 11, 63] (k := rc (ht := fun hc19 => ?_) (hf := fun hc19 => ?_)))
                              · have hc := hc19
                                exfalso
                                have h := of_decide_eq_true hc
                                first | omega | (simp at h; omega)
                              · have hc := hc19
                                refine rk (k := rB (k := ?_))
                                have hw9 : wv = 13 := by have := of_decide_eq_false hc1; have := of_decide_eq_false hc2; have := of_decide_eq_false hc3; have := of_decide_eq_false hc4; have := of_decide_eq_false hc5; have := of_decide_eq_false hc6; have := of_decide_eq_false hc7; have := of_decide_eq_false hc9; have := of_decide_eq_false hc11; have := of_decide_eq_false hc13; have := of_decide_eq_false hc15; have := of_decide_eq_false hc17; have := of_decide_eq_false hc18; omega
                                subst hw9
                                refine rp [4, 8] (k := ?_)
                                refine hJb0 _ _ ⟨rfl, au, ?_⟩
                                rw [hodd, show oddG t k x 13 wi si at_ n = ⟨t.frame, t.tens.set k (⟨x.unit, x.fns, x.queue, x.wins, x.slts⟩ : Ten)⟩ by simp only [oddG, oddX, Int.reduceEq, reduceCtorEq, ↓reduceIte, List.append_nil, modF_ge (show x.wins.length ≤ wi by have := of_decide_eq_false hc19; first | omega | simp_all)]]
                                exact odd_done (by repeat (first | exact F1 | refine Fr.new ?_ _ | refine Fr.set ?_ (by omega) (by first | omega | (simp only [nxt_new, nxt_set]; omega)) _)) (by first | omega | (simp only [go_sem]; omega)) au (by omega) au ⟨.sl .clip [], .sl .clip [], rfl, .inl ⟨.clip, by simp [hwe]⟩, .inl ⟨.clip, by simp [hse]⟩⟩
theorem law_odd {t : Tab} {m : Nat} (hm : m ≤ 1000) (ht : t.few m) {what at_ n : Int} (hwI : I64 what) (haI : I64 at_) (hnI : I64 n) {s : St} : ACalls Try.prog 11 [t.pv, .int .i64 what, .int .i64 at_, .int .i64 n] s (fun r s' => r = (oddF t what at_ n).pv ∧ s' = s) := by
  by_cases h0 : t.tens = []
  · exact odd_nil hm ht hwI haI hnI h0
  · have hl : 0 < t.tens.length := List.length_pos_iff.2 h0
    have hb := withinI_bound (n := at_) (lo := 0) (hi := (t.tens.length : Int) - 1) (by omega)
    obtain ⟨k, hk⟩ : ∃ y : Nat, withinI at_ 0 ((t.tens.length : Int) - 1) = y := ⟨_, (Int.toNat_of_nonneg hb.1).symm⟩
    have hkl : k < t.tens.length := by omega
    by_cases hw : t.tens[k].wins = []
    · by_cases hs : t.tens[k].slts = []
      · exact odd_nn hm ht hwI haI hnI hk hkl rfl hw hs
      · exact odd_ns hm ht hwI haI hnI hk hkl rfl hw hs
    · by_cases hs : t.tens[k].slts = []
      · exact odd_wn hm ht hwI haI hnI hk hkl rfl hw hs
      · exact odd_ws hm ht hwI haI hnI hk hkl rfl hw hs
end Go.Proofs
namespace Go.Proofs
open Go.PM
set_option maxHeartbeats 2000000
set_option maxRecDepth 100000 in
theorem law_Disjoint {l : List Int} (hl : l.length * 8 ≤ 140737488351232) {what at_ n : Int} (hw : I64 what) (hat : I64 at_) (hn : I64 n) {s : St} : ACalls Try.prog 5 [.sl .unk (l.map (PV.int .i64)), .int .i64 what, .int .i64 at_, .int .i64 n] s (fun r s' => r = .bool true ∧ s' = s) := by
  refine go Try.func5 (k := fun hwf H => ?_)
  refine rs (k := rg [0, 1, 2, 3] (k := rs (k := rr (k := ro (pre := [_, _, _]) (k := ?_)))))
  refine RunO.callw au au au (by kernel_rfl) ((tape_Table (T := ⟨l, 0⟩) ⟨hl, by simp only; omega⟩ (tp := s.nxt) (by simp (disch := omega) only [go_sem, ↓reduceIte] <;> rfl)).mono ?_)
  rintro r s9 ⟨t, T2, rfl, hs, hT2, hRt, hfwt⟩
  subst s9
  refine ro (pre := [_, _, _, _, _]) (k := ?_)
  refine RunO.callw au au au (by kernel_rfl) ((law_odd (m := 6) (by decide) hfwt hw (show I64 (ibits .and .i64 at_ 31) from (by have h : 0 ≤ ibits .and .i64 at_ 31 ∧ ibits .and .i64 at_ 31 ≤ 31 := ibits_and_le at_ 31 (by decide); unfold I64; omega)) (show I64 (ibits .and .i64 n 255) from (by have h : 0 ≤ ibits .and .i64 n 255 ∧ ibits .and .i64 n 255 ≤ 255 := ibits_and_le n 255 (by decide); unfold I64; omega))).mono ?_)
  rintro r s9 ⟨rfl, hs⟩
  subst s9
  have huo := (oddF_few (m := 6) (what := what) (at_ := ibits .and .i64 at_ 31) (by decide) hfwt (show I64 (ibits .and .i64 n 255) from (by have h : 0 ≤ ibits .and .i64 n 255 ∧ ibits .and .i64 n 255 ≤ 255 := ibits_and_le n 255 (by decide); unfold I64; omega))).ok
  obtain ⟨u, hu⟩ : ∃ u, oddF t what (ibits .and .i64 at_ 31) (ibits .and .i64 n 255) = u := ⟨_, rfl⟩
  rw [hu] at huo ⊢
  have hbt := huo.bt
  refine rh [9] (k := rs (k := rs (k := rr (k := ro (pre := [_]) (k := rC (h := table_Right huo) (k := rh [9, 33] (k := rc (ht := fun hc0 => ?_) (hf := fun hc0 => ?_))))))))
  · refine rs (k := rr (k := rC (h := law_known) (k := rh [8] (k := rR (k := ?_)))))
    refine Ret.pure (by simp only [Try.f5, go_sem] <;> rfl) rfl (by simp only [go_sem, reduceCtorEq, false_implies, implies_true]) hwf (by first | exact (F1).blk | exact ((by repeat (first | exact Fr.refl hwf | refine Fr.new ?_ _ | refine Fr.set ?_ (by omega) (by simp only [nxt_new, nxt_set]; omega) _) : Fr s _)).blk) ⟨?_, rfl⟩
    · rfl
  · refine rk (k := rs (k := ?_))
    have hR : tabRight u = true := by simpa using hc0
    have hrt := right_rt hR
    have hf := hrt.f
    have hw0 : (tabWhere u).1 = 0 := by simpa [tabRight] using hR
    have hall := (tabWhere_few hw0).2.2
    refine rg [9, 10] (k := rs (k := rg [9, 10, 11] (k := rs (k := rs (k := rg [9, 10, 11, 38, 39, 40] (k := rb (k := ?_)))))))
    refine Run.loop (fun e s' => Fr s s' ∧ (s.nxt + 1 + 1 + 1) < s'.nxt ∧ s'.blk (s.nxt + 1) = some (.row 24 [.agg [.int .i64 (u).frame, .sl .unk ((u).tens.map Ten.pv)]]) ∧ ∃ i : Nat, ∃ e1 e2, s'.blk (s.nxt + 1 + 1) = some (.map e1) ∧ s'.blk (s.nxt + 1 + 1 + 1) = some (.map e2) ∧ Keys2 e1 (cellsI u i) ∧ Keys1 e2 (ticksI u i) ∧ e = [(9, .ptr (s.nxt + 1) 0 0), (10, .map (s.nxt + 1 + 1)), (11, .map (s.nxt + 1 + 1 + 1)), (38, .sl .unk (u.tens.map Ten.pv)), (39, .int .i64 u.tens.length), (40, .int .i64 (i : Int))] ∧ i ≤ u.tens.length) (fun e s' => u.tens.length - ivar e 40) ?_ ?_
    · refine ⟨by repeat (first | exact Fr.refl hwf | refine Fr.new ?_ _ | refine Fr.set ?_ (by omega) (by simp only [nxt_new, nxt_set]; omega) _), by simp only [nxt_set, nxt_new]; omega, by simp (disch := first | omega | (simp only [nxt_set, nxt_new] <;> omega) | fail) only [go_sem, ↓reduceIte], 0, [], [], by simp (disch := first | omega | (simp only [nxt_set, nxt_new] <;> omega) | fail) only [go_sem, ↓reduceIte], by simp (disch := first | omega | (simp only [nxt_set, nxt_new] <;> omega) | fail) only [go_sem, ↓reduceIte], fun a b _ => rfl, fun a _ => rfl, rfl, Nat.zero_le _⟩
    rintro e s1 ⟨F1, hn1, hT1, i, e11, e21, hm11, hm21, k11, k21, rfl, hi⟩
    refine rs (k := rg [9, 10, 11, 38, 39, 40, 41] (k := rs (k := rc (ht := fun hc1 => ?_) (hf := fun hc1 => ?_))))
    · refine rk (k := rs (k := rb (k := rs (k := ?_))))
      have hxl : i < (u.tens).length := by have := of_decide_eq_true hc1; omega
      obtain ⟨x, hxe⟩ : ∃ z_, (u.tens)[i]'hxl = z_ := ⟨_, rfl⟩
      have hxx : ((u.tens).map Ten.pv)[i]? = some (.agg [.int .i64 (x).unit, .int .u32 (x).fns, .int .i64 (x).queue, .sl .unk ((x).wins.map Win.pv), .sl .unk ((x).slts.map Slt.pv)]) := by rw [map_get hxl, hxe]; rfl
      have hwx : IntKind.i64.wrap ((i : Int) + 1) = ((i + 1 : Nat) : Int) := by rw [wrap_i64 (by omega)]; omega
      have hxok : x.ok := by rw [← hxe]; exact huo.tens _ (List.getElem_mem _)
      have hxm : x ∈ u.tens := by rw [← hxe]; exact List.getElem_mem _
      have hbw := hxok.bw
      have hbs := hxok.bs
      have hwr := (tenWhy_few (hall x hxm)).2.2.2.2.2.1
      have H := aj hxx (aj hwx (aj hxl H))
      refine rg [9, 10, 11, 12, 13, 38, 39, 40] (k := rs (k := rs (k := rg [9, 10, 11, 12, 13, 38, 39, 40, 46, 47, 48] (k := rb (k := ?_)))))
      refine Run.loop (fun e s' => Fr s s' ∧ (s.nxt + 1 + 1 + 1) < s'.nxt ∧ s'.blk (s.nxt + 1) = some (.row 24 [.agg [.int .i64 (u).frame, .sl .unk ((u).tens.map Ten.pv)]]) ∧ ∃ j : Nat, ∃ e1 e2, s'.blk (s.nxt + 1 + 1) = some (.map e1) ∧ s'.blk (s.nxt + 1 + 1 + 1) = some (.map e2) ∧ Keys2 e1 (cellsI u i ++ (x.wins.take j).flatMap cellsW) ∧ Keys1 e2 (ticksI u i) ∧ e = [(9, .ptr (s.nxt + 1) 0 0), (10, .map (s.nxt + 1 + 1)), (11, .map (s.nxt + 1 + 1 + 1)), (12, .int .i64 (i : Int)), (13, .ptr s1.nxt 0 0), (38, .sl .unk (u.tens.map Ten.pv)), (39, .int .i64 u.tens.length), (40, .int .i64 (i : Int)), (46, .sl .unk (x.wins.map Win.pv)), (47, .int .i64 x.wins.length), (48, .int .i64 (j : Int))] ∧ j ≤ x.wins.length ∧ s1.nxt < s'.nxt ∧ s'.blk s1.nxt = some (.row 43 [.agg [.int .i64 (x).unit, .int .u32 (x).fns, .int .i64 (x).queue, .sl .unk ((x).wins.map Win.pv), .sl .unk ((x).slts.map Slt.pv)]])) (fun e s' => x.wins.length - ivar e 48) ?_ ?_
      · refine ⟨F1.new _, by simp only [nxt_set, nxt_new]; omega, by simp (disch := first | omega | (simp only [nxt_set, nxt_new] <;> omega) | fail) only [go_sem, hT1], 0, e11, e21, by simp (disch := first | omega | (simp only [nxt_set, nxt_new] <;> omega) | fail) only [go_sem, hm11], by simp (disch := first | omega | (simp only [nxt_set, nxt_new] <;> omega) | fail) only [go_sem, hm21], by simpa using k11, k21, rfl, Nat.zero_le _, by simp only [nxt_set, nxt_new]; omega, by simp (disch := first | omega | (simp only [nxt_set, nxt_new] <;> omega) | fail) only [go_sem, ↓reduceIte]⟩
      rintro e s2 ⟨F2, hn2, hT2, j, e12, e22, hm12, hm22, k12, k22, rfl, hj, hXl2, hX2⟩
      refine rs (k := rg [9, 10, 11, 12, 13, 38, 39, 40, 46, 47, 48, 49] (k := rs (k := rc (ht := fun hc2 => ?_) (hf := fun hc2 => ?_))))
      · refine rk (k := rs (k := rb (k := rs (k := ?_))))
        have hwl : j < (x.wins).length := by have := of_decide_eq_true hc2; omega
        obtain ⟨w, hwe⟩ : ∃ z_, (x.wins)[j]'hwl = z_ := ⟨_, rfl⟩
        have hxw : ((x.wins).map Win.pv)[j]? = some (.agg [.int .i64 (w).space, .int .i64 (w).virt, .int .i64 (w).phys, .int .i64 (w).cnt]) := by rw [map_get hwl, hwe]; rfl
        have hww : IntKind.i64.wrap ((j : Int) + 1) = ((j + 1 : Nat) : Int) := by rw [wrap_i64 (by omega)]; omega
        have hwok : w.ok := by rw [← hwe]; exact hxok.wins _ (List.getElem_mem _)
        have hwR := hwr w (by rw [← hwe]; exact List.getElem_mem _)
        have hwP := hwR
        simp only [winRight, Bool.and_eq_true, decide_eq_true_eq] at hwP
        have hwp := spRight_b hwP.2
        simp only [Win.p] at hwp
        have H := aj hxw (aj hww (aj hwl H))
        refine rg [9, 10, 11, 12, 13, 15, 38, 39, 40, 46, 47, 48] (k := rs (k := rg [9, 10, 11, 12, 13, 15, 16, 38, 39, 40, 46, 47, 48] (k := rb (k := ?_))))
        refine Run.loop (fun e s' => Fr s s' ∧ (s.nxt + 1 + 1 + 1) < s'.nxt ∧ s'.blk (s.nxt + 1) = some (.row 24 [.agg [.int .i64 (u).frame, .sl .unk ((u).tens.map Ten.pv)]]) ∧ ∃ q : Nat, ∃ e1 e2, s'.blk (s.nxt + 1 + 1) = some (.map e1) ∧ s'.blk (s.nxt + 1 + 1 + 1) = some (.map e2) ∧ Keys2 e1 (cellsI u i ++ (x.wins.take j).flatMap cellsW ++ (List.range q).map (fun q : Nat => (w.space, w.phys + (q : Int)))) ∧ Keys1 e2 (ticksI u i) ∧ e = [(9, .ptr (s.nxt + 1) 0 0), (10, .map (s.nxt + 1 + 1)), (11, .map (s.nxt + 1 + 1 + 1)), (12, .int .i64 (i : Int)), (13, .ptr s1.nxt 0 0), (15, .ptr s2.nxt 0 0), (16, .int .i64 (q : Int)), (38, .sl .unk (u.tens.map Ten.pv)), (39, .int .i64 u.tens.length), (40, .int .i64 (i : Int)), (46, .sl .unk (x.wins.map Win.pv)), (47, .int .i64 x.wins.length), (48, .int .i64 (j : Int))] ∧ q ≤ w.cnt.toNat ∧ s1.nxt < s2.nxt ∧ s'.blk s1.nxt = some (.row 43 [.agg [.int .i64 (x).unit, .int .u32 (x).fns, .int .i64 (x).queue, .sl .unk ((x).wins.map Win.pv), .sl .unk ((x).slts.map Slt.pv)]]) ∧ s2.nxt < s'.nxt ∧ s'.blk s2.nxt = some (.row 45 [.agg [.int .i64 (w).space, .int .i64 (w).virt, .int .i64 (w).phys, .int .i64 (w).cnt]])) (fun e s' => w.cnt.toNat - ivar e 16) ?_ ?_
        · refine ⟨F2.new _, by simp only [nxt_set, nxt_new]; omega, by simp (disch := first | omega | (simp only [nxt_set, nxt_new] <;> omega) | fail) only [go_sem, hT2], 0, e12, e22, by simp (disch := first | omega | (simp only [nxt_set, nxt_new] <;> omega) | fail) only [go_sem, hm12], by simp (disch := first | omega | (simp only [nxt_set, nxt_new] <;> omega) | fail) only [go_sem, hm22], by simpa using k12, k22, rfl, Nat.zero_le _, hXl2, by simp (disch := first | omega | (simp only [nxt_set, nxt_new] <;> omega) | fail) only [go_sem, hX2], by simp only [nxt_set, nxt_new]; omega, by simp (disch := first | omega | (simp only [nxt_set, nxt_new] <;> omega) | fail) only [go_sem, ↓reduceIte]⟩
        rintro e s3 ⟨F3, hn3, hT3, q, e13, e23, hm13, hm23, k13, k23, rfl, hq, hXl3, hX3, hWl3, hW3⟩
        refine rs (k := rs (k := ?_))
        have H := aj hW3 H
        refine rg [9, 10, 11, 12, 13, 15, 16, 38, 39, 40, 46, 47, 48, 55] (k := rc (ht := fun hc3 => ?_) (hf := fun hc3 => ?_))
        · refine rk (k := rs (k := rb (k := rs (k := ?_))))
          have hql : (q : Int) < w.cnt := of_decide_eq_true hc3
          have hwq : IntKind.i64.wrap ((q : Int) + 1) = ((q + 1 : Nat) : Int) := by rw [wrap_i64 (by omega)]; omega
          have hwc : IntKind.i64.wrap (w.phys + (q : Int)) = w.phys + q := wrap_i64 (by omega)
          have h512 : ((512 : Int) ≤ w.phys + q) = False := eq_false (by omega)
          have hnew := cells_new hR (i := i) (j := j) (q := q) hxl (by rw [hxe]; exact hwl) (by simp only [hxe, hwe]; exact hql)
          simp only [hxe, hwe] at hnew
          have hpf := k13 _ _ hnew
          have hwi : IntKind.i64.wrap ((i : Int) + 1) = ((i + 1 : Nat) : Int) := by rw [wrap_i64 (by omega)]; omega
          have H := aj hwq (aj hwc (aj h512 (aj hpf (aj hm13 (aj hm23 (aj hT3 (aj hwi H)))))))
          refine rg [9, 10, 11, 12, 13, 15, 16, 17, 38, 39, 40, 46, 47, 48] (k := rs (k := rs (k := rg [9, 10, 11, 12, 13, 15, 16, 17, 38, 39, 40, 46, 47, 48, 75] (k := rc (ht := fun hc4 => ?_) (hf := fun hc4 => ?_)))))
          · cases hc4
          · refine rk (k := rg [9, 10, 11, 12, 13, 15, 16, 38, 39, 40, 46, 47, 48] (k := rB (k := rg [9, 10, 11, 12, 13, 15, 16, 38, 39, 40, 46, 47, 48] (k := ?_))))
            refine Run.lp ⟨⟨(F3.new _).set (by omega) (by simp only [nxt_set, nxt_new]; omega) _, by simp only [nxt_set, nxt_new]; omega, by simp (disch := first | omega | (simp only [nxt_set, nxt_new] <;> omega) | fail) only [go_sem, hT3], q + 1, e13 ++ [(.agg [.int .i64 w.space, .int .i64 (w.phys + (q : Int))], .int .i64 ((i + 1 : Nat) : Int))], e23, by simp (disch := first | omega | (simp only [nxt_set, nxt_new] <;> omega) | fail) only [go_sem, ↓reduceIte], by simp (disch := first | omega | (simp only [nxt_set, nxt_new] <;> omega) | fail) only [go_sem, hm23], ?_, k23, rfl, by omega, hXl3, by simp (disch := first | omega | (simp only [nxt_set, nxt_new] <;> omega) | fail) only [go_sem, hX3], by simp only [nxt_set, nxt_new]; omega, by simp (disch := first | omega | (simp only [nxt_set, nxt_new] <;> omega) | fail) only [go_sem, hW3]⟩, ?_⟩
            · rw [List.range_succ, List.map_append, ← List.append_assoc]
              exact k13.snoc
            · simp only [ivar, go_sem, ↓reduceIte, Nat.reduceEqDiff]
              omega
        · refine rX (k := rB (k := rg [9, 10, 11, 12, 13, 38, 39, 40, 46, 47, 48] (k := ?_)))
          have hqe : q = w.cnt.toNat := by have := of_decide_eq_false hc3; omega
          refine Run.lp ⟨⟨F3, hn3, hT3, j + 1, e13, e23, hm13, hm23, ?_, k23, rfl, by omega, by omega, hX3⟩, ?_⟩
          · rw [take_get hwl, hwe, List.flatMap_append, ← List.append_assoc]
            rw [hqe] at k13
            simpa [cellsW] using k13
          · simp only [ivar, go_sem, ↓reduceIte, Nat.reduceEqDiff]
            omega
      · refine rX (k := rs (k := ?_))
        have hje : j = x.wins.length := by have := of_decide_eq_false hc2; omega
        rw [hje, List.take_length] at k12
        have H := aj hX2 H
        refine rg [9, 10, 11, 12, 38, 39, 40, 82, 83, 84] (k := rb (k := ?_))
        refine Run.loop (fun e s' => Fr s s' ∧ (s.nxt + 1 + 1 + 1) < s'.nxt ∧ s'.blk (s.nxt + 1) = some (.row 24 [.agg [.int .i64 (u).frame, .sl .unk ((u).tens.map Ten.pv)]]) ∧ ∃ j : Nat, ∃ e1 e2, s'.blk (s.nxt + 1 + 1) = some (.map e1) ∧ s'.blk (s.nxt + 1 + 1 + 1) = some (.map e2) ∧ Keys2 e1 (cellsI u i ++ cellsT x) ∧ Keys1 e2 (ticksI u i ++ (x.slts.take j).flatMap ticksS) ∧ e = [(9, .ptr (s.nxt + 1) 0 0), (10, .map (s.nxt + 1 + 1)), (11, .map (s.nxt + 1 + 1 + 1)), (12, .int .i64 (i : Int)), (38, .sl .unk (u.tens.map Ten.pv)), (39, .int .i64 u.tens.length), (40, .int .i64 (i : Int)), (82, .sl .unk (x.slts.map Slt.pv)), (83, .int .i64 x.slts.length), (84, .int .i64 (j : Int))] ∧ j ≤ x.slts.length) (fun e s' => x.slts.length - ivar e 84) ?_ ?_
        · refine ⟨F2, hn2, hT2, 0, e12, e22, hm12, hm22, k12, by simpa using k22, rfl, Nat.zero_le _⟩
        rintro e s4 ⟨F4, hn4, hT4, j, e14, e24, hm14, hm24, k14, k24, rfl, hj⟩
        refine rs (k := rg [9, 10, 11, 12, 38, 39, 40, 82, 83, 84, 85] (k := rs (k := rc (ht := fun hc5 => ?_) (hf := fun hc5 => ?_))))
        · refine rk (k := rs (k := rb (k := rs (k := ?_))))
          have hyl : j < (x.slts).length := by have := of_decide_eq_true hc5; omega
          obtain ⟨y, hye⟩ : ∃ z_, (x.slts)[j]'hyl = z_ := ⟨_, rfl⟩
          have hxy : ((x.slts).map Slt.pv)[j]? = some (.agg [.int .i64 (y).pos, .int .i64 (y).len]) := by rw [map_get hyl, hye]; rfl
          have hwy : IntKind.i64.wrap ((j : Int) + 1) = ((j + 1 : Nat) : Int) := by rw [wrap_i64 (by omega)]; omega
          have hyok : y.ok := by rw [← hye]; exact hxok.slts _ (List.getElem_mem _)
          have hyp := hrt.p x hxm y (by rw [← hye]; exact List.getElem_mem _)
          have h72 : (y.len < 72) = False := eq_false (by omega)
          have hwpl : IntKind.i64.wrap (y.pos + y.len) = y.pos + y.len := wrap_i64 (by omega)
          have H := aj hxy (aj hwy (aj hyl (aj h72 (aj hwpl H))))
          refine rg [9, 10, 11, 12, 19, 38, 39, 40, 82, 83, 84] (k := rs (k := rs (k := rg [9, 10, 11, 12, 19, 38, 39, 40, 82, 83, 84, 90] (k := rc (ht := fun hc6 => ?_) (hf := fun hc6 => ?_)))))
          · cases hc6
          · refine rk (k := rs (k := rg [9, 10, 11, 12, 19, 20, 38, 39, 40, 82, 83, 84] (k := rb (k := ?_))))
            refine Run.loop (fun e s' => Fr s s' ∧ (s.nxt + 1 + 1 + 1) < s'.nxt ∧ s'.blk (s.nxt + 1) = some (.row 24 [.agg [.int .i64 (u).frame, .sl .unk ((u).tens.map Ten.pv)]]) ∧ ∃ q : Nat, ∃ e1 e2, s'.blk (s.nxt + 1 + 1) = some (.map e1) ∧ s'.blk (s.nxt + 1 + 1 + 1) = some (.map e2) ∧ Keys2 e1 (cellsI u i ++ cellsT x) ∧ Keys1 e2 (ticksI u i ++ (x.slts.take j).flatMap ticksS ++ (List.range q).map (fun q : Nat => y.pos + (q : Int))) ∧ e = [(9, .ptr (s.nxt + 1) 0 0), (10, .map (s.nxt + 1 + 1)), (11, .map (s.nxt + 1 + 1 + 1)), (12, .int .i64 (i : Int)), (19, .ptr s4.nxt 0 0), (20, .int .i64 (y.pos + (q : Int))), (38, .sl .unk (u.tens.map Ten.pv)), (39, .int .i64 u.tens.length), (40, .int .i64 (i : Int)), (82, .sl .unk (x.slts.map Slt.pv)), (83, .int .i64 x.slts.length), (84, .int .i64 (j : Int))] ∧ q ≤ y.len.toNat ∧ s4.nxt < s'.nxt ∧ s'.blk s4.nxt = some (.row 48 [.agg [.int .i64 (y).pos, .int .i64 (y).len]])) (fun e s' => (y.pos + y.len).toNat - ivar e 20) ?_ ?_
            · refine ⟨F4.new _, by simp only [nxt_set, nxt_new]; omega, by simp (disch := first | omega | (simp only [nxt_set, nxt_new] <;> omega) | fail) only [go_sem, hT4], 0, e14, e24, by simp (disch := first | omega | (simp only [nxt_set, nxt_new] <;> omega) | fail) only [go_sem, hm14], by simp (disch := first | omega | (simp only [nxt_set, nxt_new] <;> omega) | fail) only [go_sem, hm24], k14, by simpa using k24, by rw [show y.pos + ((0 : Nat) : Int) = y.pos by omega], Nat.zero_le _, by simp only [nxt_set, nxt_new]; omega, by simp (disch := first | omega | (simp only [nxt_set, nxt_new] <;> omega) | fail) only [go_sem, ↓reduceIte]⟩
            rintro e s5 ⟨F5, hn5, hT5, q, e15, e25, hm15, hm25, k15, k25, rfl, hq, hSl5, hS5⟩
            refine rs (k := rs (k := ?_))
            have H := aj hS5 H
            refine rg [9, 10, 11, 12, 19, 20, 38, 39, 40, 82, 83, 84, 99] (k := rc (ht := fun hc7 => ?_) (hf := fun hc7 => ?_))
            · refine rk (k := rs (k := rb (k := rs (k := rs (k := ?_)))))
              have hql : (q : Int) < y.len := by have := of_decide_eq_true hc7; omega
              have hwq : IntKind.i64.wrap (y.pos + (q : Int) + 1) = y.pos + ((q + 1 : Nat) : Int) := by rw [wrap_i64 (by omega)]; omega
              have hfr : (u.frame ≤ y.pos + (q : Int)) = False := eq_false (by omega)
              have hnew := ticks_new hR (i := i) (j := j) (q := q) hxl (by rw [hxe]; exact hyl) (by simp only [hxe, hye]; exact hql)
              simp only [hxe, hye] at hnew
              have hmf := k25 _ hnew
              have hwi : IntKind.i64.wrap ((i : Int) + 1) = ((i + 1 : Nat) : Int) := by rw [wrap_i64 (by omega)]; omega
              have H := aj hwq (aj hfr (aj hmf (aj hm15 (aj hm25 (aj hT5 (aj hwi H))))))
              refine rg [9, 10, 11, 12, 19, 20, 38, 39, 40, 82, 83, 84, 111] (k := rc (ht := fun hc8 => ?_) (hf := fun hc8 => ?_))
              · cases hc8
              · refine rk (k := rg [9, 10, 11, 12, 19, 20, 38, 39, 40, 82, 83, 84] (k := rB (k := rg [9, 10, 11, 12, 19, 20, 38, 39, 40, 82, 83, 84] (k := ?_))))
                refine Run.lp ⟨⟨F5.set (by omega) (by omega) _, hn5, by simp (disch := first | omega | (simp only [nxt_set, nxt_new] <;> omega) | fail) only [go_sem, hT5], q + 1, e15, e25 ++ [(.int .i64 (y.pos + (q : Int)), .int .i64 ((i + 1 : Nat) : Int))], by simp (disch := first | omega | (simp only [nxt_set, nxt_new] <;> omega) | fail) only [go_sem, hm15], by simp (disch := first | omega | (simp only [nxt_set, nxt_new] <;> omega) | fail) only [go_sem, ↓reduceIte], k15, ?_, rfl, by omega, hSl5, by simp (disch := first | omega | (simp only [nxt_set, nxt_new] <;> omega) | fail) only [go_sem, hS5]⟩, ?_⟩
                · rw [List.range_succ, List.map_append, ← List.append_assoc]
                  exact k25.snoc
                · simp only [ivar, go_sem, ↓reduceIte, Nat.reduceEqDiff]
                  omega
            · refine rX (k := rB (k := rg [9, 10, 11, 12, 38, 39, 40, 82, 83, 84] (k := ?_)))
              have hqe : q = y.len.toNat := by have := of_decide_eq_false hc7; omega
              refine Run.lp ⟨⟨F5, hn5, hT5, j + 1, e15, e25, hm15, hm25, k15, ?_, rfl, by omega⟩, ?_⟩
              · rw [take_get hyl, hye, List.flatMap_append, ← List.append_assoc]
                rw [hqe] at k25
                simpa [ticksS] using k25
              · simp only [ivar, go_sem, ↓reduceIte, Nat.reduceEqDiff]
                omega
        · refine rX (k := rB (k := rg [9, 10, 11, 38, 39, 40] (k := ?_)))
          have hje : j = x.slts.length := by have := of_decide_eq_false hc5; omega
          rw [hje, List.take_length] at k24
          refine Run.lp ⟨⟨F4, hn4, hT4, i + 1, e14, e24, hm14, hm24, by rw [cellsI_step hxl, hxe]; exact k14, by rw [ticksI_step hxl, hxe]; exact k24, rfl, by omega⟩, ?_⟩
          simp only [ivar, go_sem, ↓reduceIte, Nat.reduceEqDiff]
          omega
    · refine rX (k := rs (k := rr (k := rC (h := law_known) (k := rh [8] (k := rR (k := ?_))))))
      refine Ret.pure (by simp only [Try.f5, go_sem] <;> rfl) rfl (by simp only [go_sem, reduceCtorEq, false_implies, implies_true]) hwf (by first | exact (F1).blk | exact ((by repeat (first | exact Fr.refl hwf | refine Fr.new ?_ _ | refine Fr.set ?_ (by omega) (by simp only [nxt_new, nxt_set]; omega) _) : Fr s _)).blk) ⟨?_, rfl⟩
      · rfl
end Go.Proofs
