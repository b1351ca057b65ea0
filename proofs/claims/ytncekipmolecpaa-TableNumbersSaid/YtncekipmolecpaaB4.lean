import Derived.Test.YtncekipmolecpaaB3
import Derived.Test.YtncekipmolecpaaB2
set_option linter.unusedVariables false
set_option linter.unusedSimpArgs false
namespace Go.Proofs
open Go.PM
set_option maxHeartbeats 2000000
attribute [local go_sem] List.set_set List.map_nil List.length_nil List.length_set Int.toNat_natCast Nat.zero_add Tab.pv
theorem isEls_none (P : Program) (e : TypeId) : isEls P e [] := fun p hp => by cases hp
def ListR (s' : St) (lo : Nat) (v : PV) (els : List PV) : Prop := (∃ k, v = .sl k els) ∨ ∃ L ty, v = .own L 0 els.length ∧ lo < L ∧ s'.blk L = some (.row ty els)
def TenR (s' : St) (lo : Nat) (el : PV) (x : Ten) : Prop := ∃ vw vs, el = .agg [.int .i64 x.unit, .int .u32 x.fns, .int .i64 x.queue, vw, vs] ∧ ListR s' lo vw (x.wins.map Win.pv) ∧ ListR s' lo vs (x.slts.map Slt.pv)
structure OddR (s0 s' : St) (t' : Tab) : Prop where
  fr : Fr s0 s'
  lt : s0.nxt + 1 < s'.nxt
  row : ∃ A els, s'.blk s0.nxt = some (.row 24 [.agg [.int .i64 t'.frame, .own A 0 t'.tens.length]]) ∧ s0.nxt + 1 < A ∧ s'.blk A = some (.row 43 els) ∧ els.length = t'.tens.length ∧ ∀ j (h : j < els.length) (h' : j < t'.tens.length), TenR s' (s0.nxt + 1) els[j] t'.tens[j]
theorem ListR.frz {s' : St} {lo : Nat} {v : PV} {els : List PV} (h : ListR s' lo v els) {q : Nat → Bool} (hq : ∀ i, lo < i → q i = false) (n : Nat) (hf : ∀ e ∈ els, PV.frz true s' q n e = e) : PV.frz true s' q (n + 1) v = .sl .unk els := by
  have hm : els.map (PV.frz true s' q n) = els := by
    conv => rhs; rw [← List.map_id els]
    exact List.map_congr_left fun e he => by rw [hf e he]; rfl
  rcases h with ⟨k, rfl⟩ | ⟨L, ty, rfl, h2, h3⟩
  · unfold PV.frz
    rw [hm]; rfl
  · unfold PV.frz
    rw [if_neg (by rw [hq L h2]; simp), h3]
    simp only [Nat.zero_add, List.drop_zero, Nat.le_refl, if_true, List.take_length, hm]
theorem TenR.frz {s' : St} {lo : Nat} {el : PV} {x : Ten} (h : TenR s' lo el x) {q : Nat → Bool} (hq : ∀ i, lo < i → q i = false) : PV.frz true s' q 5 el = x.pv := by
  obtain ⟨vw, vs, rfl, hw, hs⟩ := h
  have e1 := hw.frz hq 3 (fun e he => by obtain ⟨w, _, rfl⟩ := List.mem_map.1 he; simp [Win.pv, PV.frz, PV.weak])
  have e2 := hs.frz hq 3 (fun e he => by obtain ⟨w, _, rfl⟩ := List.mem_map.1 he; simp [Slt.pv, PV.frz, PV.weak])
  unfold PV.frz
  simp only [List.map_cons, List.map_nil, e1, e2]
  simp [PV.frz, PV.weak, Ten.pv]
theorem OddR.frz {s0 s' : St} {t' : Tab} (h : OddR s0 s' t') {A : Nat} (hA : s'.blk s0.nxt = some (.row 24 [.agg [.int .i64 t'.frame, .own A 0 t'.tens.length]])) : PV.frz true s' (fun i => decide (i < s0.nxt)) 7 (.agg [.int .i64 t'.frame, .own A 0 t'.tens.length]) = t'.pv := by
  obtain ⟨B, els, h1, h2, h3, h4, h5⟩ := h.row
  rw [h1] at hA
  have : B = A := by simpa using hA
  subst this
  have hq : ∀ i, s0.nxt + 1 < i → (fun i => decide (i < s0.nxt)) i = false := fun i hi => decide_eq_false (by omega)
  have hm : els.map (PV.frz true s' (fun i => decide (i < s0.nxt)) 5) = t'.tens.map Ten.pv := by
    refine List.ext_getElem (by simp [h4]) fun j a b => ?_
    simp only [List.length_map] at a b
    rw [List.getElem_map, List.getElem_map]
    exact (h5 j a b).frz hq
  unfold PV.frz
  simp only [List.map_cons, List.map_nil]
  unfold PV.frz
  rw [if_neg (by rw [decide_eq_false (by omega : ¬ B < s0.nxt)]; simp), h3]
  simp only [Nat.zero_add, List.drop_zero, ← h4, Nat.le_refl, if_true, List.take_length, hm]
  simp [PV.weak, Tab.pv]
theorem ListR.mono {s' s'' : St} {lo : Nat} {v : PV} {els : List PV} (h : ListR s' lo v els) (hb : ∀ i, lo < i → s''.blk i = s'.blk i) : ListR s'' lo v els := by
  rcases h with h | ⟨L, ty, h1, h2, h3⟩
  · exact .inl h
  · exact .inr ⟨L, ty, h1, h2, by rw [hb L h2]; exact h3⟩
theorem TenR.mono {s' s'' : St} {lo : Nat} {el : PV} {x : Ten} (h : TenR s' lo el x) (hb : ∀ i, lo < i → s''.blk i = s'.blk i) : TenR s'' lo el x := by
  obtain ⟨vw, vs, h1, h2, h3⟩ := h
  exact ⟨vw, vs, h1, h2.mono hb, h3.mono hb⟩
theorem TenR.same (s' : St) (lo : Nat) (x : Ten) : TenR s' lo x.pv x := ⟨_, _, rfl, .inl ⟨_, rfl⟩, .inl ⟨_, rfl⟩⟩
theorem OddR.set {s0 s' : St} {t' : Tab} (h : OddR s0 s' t') (b : Option Blk) : OddR s0 (s'.set (s0.nxt + 1) b) t' where
  fr := h.fr.set (Nat.le_succ _) h.lt _
  lt := h.lt
  row := by
    obtain ⟨B, els, h1, h2, h3, h4, h5⟩ := h.row
    refine ⟨B, els, by rw [blk_set, if_neg (by omega)]; exact h1, h2, by rw [blk_set, if_neg (by omega)]; exact h3, h4, fun j a b => (h5 j a b).mono fun i hi => by rw [blk_set, if_neg (by omega)]⟩
theorem Run.abs {P : Program} {N : Nat} {k : List KI} {e : Env} {s : St} {rt : Env → St → Prop} (I : St → Prop) (h1 : I s) (h2 : ∀ s', I s' → Run P N k e s' rt) : Run P N k e s rt := h2 s h1
theorem tens_set {s' : St} {lo : Nat} {tens : List Ten} {k : Nat} {X : PV} {x' : Ten} (hX : TenR s' lo X x') : ∀ j (h : j < ((tens.map Ten.pv).set k X).length) (h' : j < (tens.set k x').length), TenR s' lo (((tens.map Ten.pv).set k X)[j]) ((tens.set k x')[j]) := by
  intro j h h'
  simp only [List.getElem_set]
  split
  · exact hX
  · rw [List.getElem_map]; exact TenR.same _ _ _
theorem odd_done {s0 s' : St} {t : Tab} {k : Nat} {X : PV} {x' : Ten} {f : Int} {A : Nat} (fr : Fr s0 s') (lt : s0.nxt + 1 < s'.nxt) (b4 : s'.blk s0.nxt = some (.row 24 [.agg [.int .i64 f, .own A 0 t.tens.length]])) (hA : s0.nxt + 1 < A)
    (bA : s'.blk A = some (.row 43 ((t.tens.map Ten.pv).set k X))) (hX : TenR s' (s0.nxt + 1) X x') : OddR s0 s' ⟨f, t.tens.set k x'⟩ :=
  ⟨fr, lt, A, _, by rw [List.length_set]; exact b4, hA, bA, by simp, tens_set hX⟩
theorem odd_app {s0 s' : St} {t : Tab} {k : Nat} {X : PV} {x' : Ten} {f : Int} {A : Nat} (fr : Fr s0 s') (lt : s0.nxt + 1 < s'.nxt) (b4 : s'.blk s0.nxt = some (.row 24 [.agg [.int .i64 f, .own A 0 (t.tens.length + 1)]])) (hA : s0.nxt + 1 < A)
    (bA : s'.blk A = some (.row 43 ((t.tens.map Ten.pv).set k X ++ [X]))) (hX : TenR s' (s0.nxt + 1) X x') : OddR s0 s' ⟨f, t.tens.set k x' ++ [x']⟩ := by
  refine ⟨fr, lt, A, _, by rw [List.length_append, List.length_set]; exact b4, hA, bA, by simp, fun j h h' => ?_⟩
  by_cases hj : j < (t.tens.set k x').length
  · rw [List.getElem_append_left (by simpa using hj), List.getElem_append_left hj]
    exact tens_set hX j (by simpa using hj) hj
  · have e : j = (t.tens.set k x').length := by simp at h' hj ⊢; omega
    have e2 : ((t.tens.map Ten.pv).set k X).length = (t.tens.set k x').length := by simp
    rw [List.getElem_append_right (by omega), List.getElem_append_right (by omega)]
    simp only [e, e2, Nat.sub_self, List.getElem_cons_zero]
    exact hX
theorem few_app {t : Tab} {m : Nat} (ht : t.few (m + 1)) {x : Ten} (hx : x.ok) (h1 : x.wins.length ≤ m + 1) (h2 : x.slts.length ≤ m + 1) (hn : t.tens.length ≤ m) (hm : m ≤ 1000) : Tab.few ⟨t.frame, t.tens ++ [x]⟩ (m + 1) := by
  refine ⟨⟨ht.ok.frame, fun y hy => ?_, by simp; omega⟩, by simp; omega, fun y hy => ?_, fun y hy => ?_⟩
  · rcases List.mem_append.1 hy with h | h
    · exact ht.ok.tens y h
    · rw [List.mem_singleton.1 h]; exact hx
  · rcases List.mem_append.1 hy with h | h
    · exact ht.nw y h
    · rw [List.mem_singleton.1 h]; exact h1
  · rcases List.mem_append.1 hy with h | h
    · exact ht.ns y h
    · rw [List.mem_singleton.1 h]; exact h2
theorem few_set {t : Tab} {m : Nat} (ht : t.few m) {k : Nat} {x' : Ten} (h1 : x'.ok) (h2 : x'.wins.length ≤ m + 1) (h3 : x'.slts.length ≤ m + 1) (hm : m ≤ 1000) {f : Int} (hf : I64 f) : Tab.few ⟨f, t.tens.set k x'⟩ (m + 1) := by
  have hnt := ht.nt
  have hin : ∀ y ∈ t.tens.set k x', y ∈ t.tens ∨ y = x' := fun y hy => List.mem_or_eq_of_mem_set hy
  refine ⟨⟨hf, fun y hy => ?_, by rw [List.length_set]; omega⟩, by rw [List.length_set]; omega, fun y hy => ?_, fun y hy => ?_⟩
  · rcases hin y hy with h | rfl
    · exact ht.ok.tens y h
    · exact h1
  · rcases hin y hy with h | rfl
    · have := ht.nw y h; omega
    · exact h2
  · rcases hin y hy with h | rfl
    · have := ht.ns y h; omega
    · exact h3
theorem odd_nil {t : Tab} {m : Nat} (hm : m ≤ 1000) (ht : t.few m) {what at_ n : Int} (hwI : I64 what) (haI : I64 at_) (hnI : I64 n) (h0 : t.tens = []) {s : St} : ACalls Try.prog 11 [t.pv, .int .i64 what, .int .i64 at_, .int .i64 n] s (fun r s' => ∃ t' : Tab, r = t'.pv ∧ t'.few (m + 1) ∧ s' = s) := by
  refine go Try.func11 (k := fun hwf H => ?_)
  have H := aj h0 H
  refine rs (k := rg [1, 2, 3, 4, 8] (k := rs (k := rr (k := rO (k := ro (pre := [_, _]) (k := ?_))))))
  refine RunO.append au au au Try.td22 (by rw [Try.zp43]; rfl) (isEls_none _ _) (isEls_none _ _) (by rw [Try.by43]; decide) (by simp) (v := .sl .clip []) (by unfold aAppend; rw [if_pos rfl]) ?_
  refine rh [1, 2, 3, 4, 8] (k := rs (k := rs (k := rg [1, 2, 3, 4, 8, 21] (k := rc (ht := fun hc0 => ?_) (hf := fun hc0 => ?_)))))
  · refine rs (k := rg [8] (k := rR (k := ?_)))
    refine Ret.pureF (r' := Tab.pv ⟨t.frame, []⟩) 3 (by simp only [Try.f11, go_sem, ↓reduceIte] <;> rfl) (by simp [PV.frz, PV.weak, Tab.pv]) (blw_tab _ _) hwf (fun i hi => ?_) ⟨⟨t.frame, []⟩, rfl, ⟨⟨ht.ok.frame, by simp, by simp⟩, by simp, by simp, by simp⟩, rfl⟩
    have h0 : ∀ n, (i = s.nxt + n) = False := fun n => eq_false (by omega)
    have h1 : (i = s.nxt) = False := eq_false (by omega)
    simp only [go_sem, Nat.add_assoc, Nat.reduceAdd, ↓reduceIte, h0, h1]
  · cases hc0
set_option maxRecDepth 100000 in
theorem odd_ws {t : Tab} {m : Nat} (hm : m ≤ 1000) (ht : t.few m) {what at_ n : Int} (hwI : I64 what) (haI : I64 at_) (hnI : I64 n) {k : Nat} (hkw : withinI at_ 0 (t.tens.length - 1) = k) (hkl : k < t.tens.length) {x : Ten} (hxe : t.tens[k] = x) (hwe : x.wins ≠ []) (hse : x.slts ≠ []) {s : St} : ACalls Try.prog 11 [t.pv, .int .i64 what, .int .i64 at_, .int .i64 n] s (fun r s' => ∃ t' : Tab, r = t'.pv ∧ t'.few (m + 1) ∧ s' = s) := by
  refine go Try.func11 (k := fun hwf H => ?_)
  have hnt := ht.nt
  have hxm : x ∈ t.tens := by rw [← hxe]; exact List.getElem_mem _
  have hnw := ht.nw x hxm
  have hns := ht.ns x hxm
  have hte : t.tens ≠ [] := fun h => by rw [h] at hkl; simp at hkl
  have hxx : (t.tens.map Ten.pv)[k]? = some (.agg [.int .i64 (x).unit, .int .u32 (x).fns, .int .i64 (x).queue, .sl .unk ((x).wins.map Win.pv), .sl .unk ((x).slts.map Slt.pv)]) := by rw [map_get hkl, hxe]; rfl
  have hgs : ∀ X, ((t.tens.map Ten.pv).set k X)[k]? = some X := fun X => by rw [List.getElem?_set]; simp [hkl]
  have hwl : IntKind.i64.wrap ((t.tens.length : Int) - 1) = (t.tens.length : Int) - 1 := wrap_i64 (by omega)
  have htl0 : ((t.tens.length : Int) = 0) = False := eq_false (by omega)
  have hk2 : ((k : Int) < (t.tens.length : Int)) = True := eq_true (by omega)
  have H := aj hgs (aj hwl (aj hkw (aj hk2 (aj htl0 H))))
  refine rs (k := rg [1, 2, 3, 4, 8] (k := rs (k := rr (k := rO (k := ro (pre := [_, _]) (k := ?_))))))
  refine RunO.appendFirst au au au Try.td22 (by rw [Try.zp43]; rfl) (isEls_none _ _) (isEls_map (f := Ten.pv) (fun a => ⟨rfl, by rw [Try.cz43]; rfl⟩) _) (by rw [Try.by43]; decide) (by rw [Try.by43]; simp; omega) (by simp only [aAppendFirst, List.map_eq_nil_iff, ne_eq, hte, not_false_eq_true, if_true, List.length_nil, Nat.zero_add, List.length_map, List.nil_append, go_sem]; rfl) ?_
  refine rh [1, 2, 3, 4, 8] (k := rs (k := rs (k := rg [1, 2, 3, 4, 8, 21] (k := rc (ht := fun hc0 => ?_) (hf := fun hc0 => ?_)))))
  · cases hc0
  · have hc := hc0
    refine rk (k := rs (k := rr (k := ro (pre := [_, _, _, _, _]) (k := rC (h := within_ (lo := 0) (hi := (t.tens.length : Int) - 1) (by decide) (by omega) (by omega)) (k := rh [1, 2, 3, 4, 8, 9] (k := rs (k := rg [1, 2, 3, 4, 8, 10] (k := rs (k := ?_)))))))))
    have H := aj hxx H
    refine rr (k := ro (pre := [_]) (k := rO (k := ro (pre := [_, _, _, _]) (k := ?_))))
    refine RunO.appendFirst au au au Try.td40 (by rw [Try.zp45]; rfl) (isEls_none _ _) (isEls_map (f := Win.pv) (fun a => ⟨rfl, by rw [Try.cz45]; rfl⟩) _) (by rw [Try.by45]; decide) (by rw [Try.by45]; simp; omega) (by simp only [aAppendFirst, List.map_eq_nil_iff, ne_eq, hwe, not_false_eq_true, if_true, List.length_nil, Nat.zero_add, List.length_map, List.nil_append, go_sem]; rfl) ?_
    refine rh [1, 2, 3, 4, 8, 10] (k := rs (k := rr (k := ro (pre := [_]) (k := rO (k := ro (pre := [_, _, _, _]) (k := ?_))))))
    refine RunO.appendFirst au au au Try.td41 (by rw [Try.zp48]; rfl) (isEls_none _ _) (isEls_map (f := Slt.pv) (fun a => ⟨rfl, by rw [Try.cz48]; rfl⟩) _) (by rw [Try.by48]; decide) (by rw [Try.by48]; simp; omega) (by simp only [aAppendFirst, List.map_eq_nil_iff, ne_eq, hse, not_false_eq_true, if_true, List.length_nil, Nat.zero_add, List.length_map, List.nil_append, go_sem]; rfl) ?_
    refine rh [1, 2, 3, 4, 8, 10] (k := rs (k := ?_))
    refine Run.abs (fun s1 => Fr s s1 ∧ s1.nxt = s.nxt + 1 + 1 + 1 + 1 + 1 ∧ s1.blk s.nxt = some (.row 24 [.agg [.int .i64 t.frame, .own (s.nxt + 1 + 1) 0 t.tens.length]]) ∧ s1.blk (s.nxt + 1) = some (.row 24 [.agg [.int .i64 0, .sl .nil []]]) ∧ s1.blk (s.nxt + 1 + 1) = some (.row 43 ((t.tens.map Ten.pv).set k (.agg [.int .i64 x.unit, .int .u32 x.fns, .int .i64 x.queue, .own (s.nxt + 1 + 1 + 1) 0 x.wins.length, .own (s.nxt + 1 + 1 + 1 + 1) 0 x.slts.length]))) ∧ s1.blk (s.nxt + 1 + 1 + 1) = some (.row 45 (x.wins.map Win.pv)) ∧ s1.blk (s.nxt + 1 + 1 + 1 + 1) = some (.row 48 (x.slts.map Slt.pv))) ⟨by repeat (first | exact Fr.refl hwf | refine Fr.new ?_ _ | refine Fr.set ?_ (by omega) (by simp only [nxt_new, nxt_set]; omega) _), by simp only [go_sem], by simp only [go_sem, ↓reduceIte, Nat.reduceEqDiff, Nat.reduceAdd], by simp only [go_sem, ↓reduceIte, Nat.reduceEqDiff, Nat.reduceAdd], by simp only [go_sem, ↓reduceIte, Nat.reduceEqDiff, Nat.reduceAdd], by simp only [go_sem, ↓reduceIte, Nat.reduceEqDiff, Nat.reduceAdd], by simp only [go_sem, ↓reduceIte, Nat.reduceEqDiff, Nat.reduceAdd]⟩ ?_
    rintro s1 ⟨F1, hn1, b4, b8, bA, bB, bC⟩
    have hwi0 := withinI_bound (n := n) (lo := 0) (hi := 5) (by decide)
    have hsi0 := withinI_bound (n := n) (lo := 0) (hi := 2) (by decide)
    obtain ⟨wi, hwi⟩ : ∃ y : Nat, withinI n 0 5 = y := ⟨_, (Int.toNat_of_nonneg hwi0.1).symm⟩
    obtain ⟨si, hsi⟩ : ∃ y : Nat, withinI n 0 2 = y := ⟨_, (Int.toNat_of_nonneg hsi0.1).symm⟩
    have z0 : (s.nxt = s1.nxt) = False := eq_false (by omega)
    have z1 : (s.nxt + 1 = s1.nxt) = False := eq_false (by omega)
    have z2 : (s.nxt + 1 + 1 = s1.nxt) = False := eq_false (by omega)
    have z3 : (s.nxt + 1 + 1 + 1 = s1.nxt) = False := eq_false (by omega)
    have z4 : (s.nxt + 1 + 1 + 1 + 1 = s1.nxt) = False := eq_false (by omega)
    have y0 : (s1.nxt = s.nxt) = False := eq_false (by omega)
    have y1 : (s1.nxt = s.nxt + 1) = False := eq_false (by omega)
    have y2 : (s1.nxt = s.nxt + 1 + 1) = False := eq_false (by omega)
    have y3 : (s1.nxt = s.nxt + 1 + 1 + 1) = False := eq_false (by omega)
    have y4 : (s1.nxt = s.nxt + 1 + 1 + 1 + 1) = False := eq_false (by omega)
    have H := aj b4 (aj b8 (aj bA (aj bB (aj bC (aj hwi (aj hsi (aj z0 (aj z1 (aj z2 (aj z3 (aj z4 (aj y0 (aj y1 (aj y2 (aj y3 (aj y4 H))))))))))))))))
    refine rr (k := ro (pre := [_]) (k := rC (h := within_ (lo := 0) (hi := 5) (by decide) (by decide) (by decide)) (k := ro (pre := [_]) (k := rC (h := within_ (lo := 0) (hi := 2) (by decide) (by decide) (by decide)) (k := rh [1, 2, 3, 4, 8, 10, 11, 12] (k := rs (k := rs (k := rr (k := ro (pre := [_]) (k := rC (h := within_ (lo := 0) (hi := 13) (by decide) (by decide) (by decide)) (k := ?_)))))))))))
    refine rl [2, 3, 4, 8, 10, 11, 12, 56] (k := ?_)
    refine Run.join (fun e s' => e = [(4, .ptr s.nxt 0 0), (8, .ptr (s.nxt + 1) 0 0)] ∧ s'.blk (s.nxt + 1) = some (.row 24 [.agg [.int .i64 0, .sl .nil []]]) ∧ ∃ t' : Tab, t'.few (m + 1) ∧ OddR s s' t') ?_ ?_
    · rintro e s2 ⟨rfl, r0, t', hfew, hO⟩
      obtain ⟨A', els, r1, r2, r3, r4, r5⟩ := hO.row
      have H := aj r0 (aj r1 H)
      refine rs (k := rg [8] (k := rR (k := ?_)))
      exact Ret.pureF (r' := t'.pv) 7 (by simp only [Try.f11, go_sem, ↓reduceIte, r0, r1] <;> rfl) ((hO.set _).frz (by simp only [go_sem, ↓reduceIte]; exact r1)) (blw_tab _ _) hwf (hO.set _).fr.blk ⟨t', rfl, hfew, rfl⟩
    intro hJb0
    refine rb (k := rs (k := ?_))
    obtain ⟨wv, hwv⟩ : ∃ y, withinI what 0 13 = y := ⟨_, rfl⟩
    rw [hwv]
    refine rg [2, 3, 4, 8, 10, 11, 12, 56, 73] (k := rc (ht := fun hc1 => ?_) (hf := fun hc1 => ?_))
    · have hc := hc1
      refine rg [4, 8] (k := rB (k := ?_))
      have hxo := ht.ok.tens x hxm
      have hbw := hxo.bw
      have hbs := hxo.bs
      refine rp [4, 8] (k := ?_)
      exact hJb0 _ _ ⟨rfl, au, ⟨n, t.tens.set k (⟨x.unit, x.fns, x.queue, x.wins, x.slts⟩ : Ten)⟩, few_set (k := k) (x' := (⟨x.unit, x.fns, x.queue, x.wins, x.slts⟩ : Ten)) ht ⟨hxo.unit, hxo.fns, hxo.queue, hxo.wins, hxo.slts, hxo.bw, hxo.bs⟩ (by (try simp only [List.length_set, List.length_append, List.length_cons, List.length_nil]); omega) (by (try simp only [List.length_set, List.length_append, List.length_cons, List.length_nil]); omega) hm hnI, odd_done (by repeat (first | exact F1 | refine Fr.new ?_ _ | refine Fr.set ?_ (by omega) (by first | omega | (simp only [nxt_new, nxt_set]; omega)) _)) (by first | omega | (simp only [go_sem]; omega)) au (by omega) au ⟨.own (s.nxt + 1 + 1 + 1) 0 x.wins.length, .own (s.nxt + 1 + 1 + 1 + 1) 0 x.slts.length, rfl, .inr ⟨(s.nxt + 1 + 1 + 1), _, by simp, by omega, (by first | (exact au) | (simp only [List.map_set, List.map_append, List.map_cons, List.map_nil]; exact au))⟩, .inr ⟨(s.nxt + 1 + 1 + 1 + 1), _, by simp, by omega, (by first | (exact au) | (simp only [List.map_set, List.map_append, List.map_cons, List.map_nil]; exact au))⟩⟩⟩
    · have hc := hc1
      refine rs (k := rg [2, 3, 4, 8, 10, 11, 12, 56, 77] (k := rc (ht := fun hc2 => ?_) (hf := fun hc2 => ?_)))
      · have hc := hc2
        refine rg [4, 8] (k := rB (k := ?_))
        have hxo := ht.ok.tens x hxm
        have hbw := hxo.bw
        have hbs := hxo.bs
        refine rp [4, 8] (k := ?_)
        exact hJb0 _ _ ⟨rfl, au, ⟨t.frame, t.tens.set k (⟨n, x.fns, x.queue, x.wins, x.slts⟩ : Ten)⟩, few_set (k := k) (x' := (⟨n, x.fns, x.queue, x.wins, x.slts⟩ : Ten)) ht ⟨hnI, hxo.fns, hxo.queue, hxo.wins, hxo.slts, hxo.bw, hxo.bs⟩ (by (try simp only [List.length_set, List.length_append, List.length_cons, List.length_nil]); omega) (by (try simp only [List.length_set, List.length_append, List.length_cons, List.length_nil]); omega) hm ht.ok.frame, odd_done (by repeat (first | exact F1 | refine Fr.new ?_ _ | refine Fr.set ?_ (by omega) (by first | omega | (simp only [nxt_new, nxt_set]; omega)) _)) (by first | omega | (simp only [go_sem]; omega)) au (by omega) au ⟨.own (s.nxt + 1 + 1 + 1) 0 x.wins.length, .own (s.nxt + 1 + 1 + 1 + 1) 0 x.slts.length, rfl, .inr ⟨(s.nxt + 1 + 1 + 1), _, by simp, by omega, (by first | (exact au) | (simp only [List.map_set, List.map_append, List.map_cons, List.map_nil]; exact au))⟩, .inr ⟨(s.nxt + 1 + 1 + 1 + 1), _, by simp, by omega, (by first | (exact au) | (simp only [List.map_set, List.map_append, List.map_cons, List.map_nil]; exact au))⟩⟩⟩
      · have hc := hc2
        refine rs (k := rg [2, 3, 4, 8, 10, 11, 12, 56, 83] (k := rc (ht := fun hc3 => ?_) (hf := fun hc3 => ?_)))
        · have hc := hc3
          refine rg [4, 8] (k := rB (k := ?_))
          have hxo := ht.ok.tens x hxm
          have hbw := hxo.bw
          have hbs := hxo.bs
          refine rp [4, 8] (k := ?_)
          exact hJb0 _ _ ⟨rfl, au, ⟨t.frame, t.tens.set k (⟨x.unit, x.fns, n, x.wins, x.slts⟩ : Ten)⟩, few_set (k := k) (x' := (⟨x.unit, x.fns, n, x.wins, x.slts⟩ : Ten)) ht ⟨hxo.unit, hxo.fns, hnI, hxo.wins, hxo.slts, hxo.bw, hxo.bs⟩ (by (try simp only [List.length_set, List.length_append, List.length_cons, List.length_nil]); omega) (by (try simp only [List.length_set, List.length_append, List.length_cons, List.length_nil]); omega) hm ht.ok.frame, odd_done (by repeat (first | exact F1 | refine Fr.new ?_ _ | refine Fr.set ?_ (by omega) (by first | omega | (simp only [nxt_new, nxt_set]; omega)) _)) (by first | omega | (simp only [go_sem]; omega)) au (by omega) au ⟨.own (s.nxt + 1 + 1 + 1) 0 x.wins.length, .own (s.nxt + 1 + 1 + 1 + 1) 0 x.slts.length, rfl, .inr ⟨(s.nxt + 1 + 1 + 1), _, by simp, by omega, (by first | (exact au) | (simp only [List.map_set, List.map_append, List.map_cons, List.map_nil]; exact au))⟩, .inr ⟨(s.nxt + 1 + 1 + 1 + 1), _, by simp, by omega, (by first | (exact au) | (simp only [List.map_set, List.map_append, List.map_cons, List.map_nil]; exact au))⟩⟩⟩
        · have hc := hc3
          refine rs (k := rg [2, 3, 4, 8, 10, 11, 12, 56, 89] (k := rc (ht := fun hc4 => ?_) (hf := fun hc4 => ?_)))
          · have hc := hc4
            refine rg [4, 8] (k := rB (k := ?_))
            have hxo := ht.ok.tens x hxm
            have hbw := hxo.bw
            have hbs := hxo.bs
            refine rp [4, 8] (k := ?_)
            exact hJb0 _ _ ⟨rfl, au, ⟨t.frame, t.tens.set k (⟨x.unit, IntKind.u32.wrap n, x.queue, x.wins, x.slts⟩ : Ten)⟩, few_set (k := k) (x' := (⟨x.unit, IntKind.u32.wrap n, x.queue, x.wins, x.slts⟩ : Ten)) ht ⟨hxo.unit, U32_wrap n, hxo.queue, hxo.wins, hxo.slts, hxo.bw, hxo.bs⟩ (by (try simp only [List.length_set, List.length_append, List.length_cons, List.length_nil]); omega) (by (try simp only [List.length_set, List.length_append, List.length_cons, List.length_nil]); omega) hm ht.ok.frame, odd_done (by repeat (first | exact F1 | refine Fr.new ?_ _ | refine Fr.set ?_ (by omega) (by first | omega | (simp only [nxt_new, nxt_set]; omega)) _)) (by first | omega | (simp only [go_sem]; omega)) au (by omega) au ⟨.own (s.nxt + 1 + 1 + 1) 0 x.wins.length, .own (s.nxt + 1 + 1 + 1 + 1) 0 x.slts.length, rfl, .inr ⟨(s.nxt + 1 + 1 + 1), _, by simp, by omega, (by first | (exact au) | (simp only [List.map_set, List.map_append, List.map_cons, List.map_nil]; exact au))⟩, .inr ⟨(s.nxt + 1 + 1 + 1 + 1), _, by simp, by omega, (by first | (exact au) | (simp only [List.map_set, List.map_append, List.map_cons, List.map_nil]; exact au))⟩⟩⟩
          · have hc := hc4
            refine rs (k := rg [2, 3, 4, 8, 10, 11, 12, 56, 96] (k := rc (ht := fun hc5 => ?_) (hf := fun hc5 => ?_)))
            · have hc := hc5
              refine rr (k := ro (pre := [_, _, _, _, _, _, _]) (k := rO (k := ?_)))
              refine RunO.appendOwn au au au Try.td41 (by rw [Try.zp48]; rfl) (isEls_map (f := Slt.pv) (fun a => ⟨rfl, by rw [Try.cz48]; rfl⟩) [⟨n, 72⟩]) (by rw [Try.by48]; decide) (by rw [Try.by48]; simp; omega) (v := .own s1.nxt 0 (x.slts.length + 1)) (s' := (s1.set (s.nxt + 1 + 1 + 1 + 1) none).new (.row 48 (x.slts.map Slt.pv ++ [.agg [.int .i64 n, .int .i64 72]]))) (by unfold aAppendOwn; rw [bC]; simp only [ne_eq, List.cons_ne_nil, not_false_eq_true, List.length_map, Nat.le_refl, and_self, if_true, List.length_cons, List.length_nil, Nat.zero_add]; rw [List.take_of_length_le (by rw [List.length_map]; exact Nat.le_refl _)]; rfl) ?_
              refine rh [4, 8] (k := rB (k := ?_))
              have hxo := ht.ok.tens x hxm
              have hbw := hxo.bw
              have hbs := hxo.bs
              refine rp [4, 8] (k := ?_)
              exact hJb0 _ _ ⟨rfl, au, ⟨t.frame, t.tens.set k (⟨x.unit, x.fns, x.queue, x.wins, x.slts ++ [⟨n, 72⟩]⟩ : Ten)⟩, few_set (k := k) (x' := (⟨x.unit, x.fns, x.queue, x.wins, x.slts ++ [⟨n, 72⟩]⟩ : Ten)) ht ⟨hxo.unit, hxo.fns, hxo.queue, hxo.wins, fun a ha => (List.mem_append.1 ha).elim (hxo.slts a) (fun h => by rw [List.mem_singleton.1 h]; exact ⟨hnI, (show I64 72 by decide)⟩), hxo.bw, by (try simp only [List.length_set, List.length_append, List.length_cons, List.length_nil]); omega⟩ (by (try simp only [List.length_set, List.length_append, List.length_cons, List.length_nil]); omega) (by (try simp only [List.length_set, List.length_append, List.length_cons, List.length_nil]); omega) hm ht.ok.frame, odd_done (by repeat (first | exact F1 | refine Fr.new ?_ _ | refine Fr.set ?_ (by omega) (by first | omega | (simp only [nxt_new, nxt_set]; omega)) _)) (by first | omega | (simp only [go_sem]; omega)) au (by omega) au ⟨.own (s.nxt + 1 + 1 + 1) 0 x.wins.length, .own s1.nxt 0 (x.slts.length + 1), rfl, .inr ⟨(s.nxt + 1 + 1 + 1), _, by simp, by omega, (by first | (exact au) | (simp only [List.map_set, List.map_append, List.map_cons, List.map_nil]; exact au))⟩, .inr ⟨s1.nxt, _, by simp, by omega, (by first | (exact au) | (simp only [List.map_set, List.map_append, List.map_cons, List.map_nil]; exact au))⟩⟩⟩
            · have hc := hc5
              refine rs (k := rg [2, 3, 4, 8, 10, 11, 12, 56, 109] (k := rc (ht := fun hc6 => ?_) (hf := fun hc6 => ?_)))
              · have hc := hc6
                have hb0 := ibits_and_le n 3 (by decide)
                have hb1 := ibits_and_le at_ 1023 (by decide)
                have hb2 := ibits_and_le n 511 (by decide)
                have hb3 := ibits_and_le at_ 31 (by decide)
                obtain ⟨g0, hg0⟩ : ∃ y, ibits .and .i64 n 3 = y := ⟨_, rfl⟩
                obtain ⟨g1, hg1⟩ : ∃ y, ibits .and .i64 at_ 1023 = y := ⟨_, rfl⟩
                obtain ⟨g2, hg2⟩ : ∃ y, ibits .and .i64 n 511 = y := ⟨_, rfl⟩
                obtain ⟨g4, hg4⟩ : ∃ y, ibits .and .i64 at_ 31 = y := ⟨_, rfl⟩
                have hb0 : 0 ≤ g0 ∧ g0 ≤ 3 := hg0 ▸ hb0
                have hb1 : 0 ≤ g1 ∧ g1 ≤ 1023 := hg1 ▸ hb1
                have hb2 : 0 ≤ g2 ∧ g2 ≤ 511 := hg2 ▸ hb2
                have hb3 : 0 ≤ g4 ∧ g4 ≤ 31 := hg4 ▸ hb3
                have hg3 : IntKind.i64.wrap (1 + g4) = 1 + g4 := wrap_i64 (by omega)
                have H := aj hg0 (aj hg1 (aj hg2 (aj hg4 (aj hg3 H))))
                refine rr (k := ro (pre := [_, _, _, _, _, _, _, _, _, _, _, _, _, _, _]) (k := rO (k := ?_)))
                refine RunO.appendOwn au au au Try.td40 (by rw [Try.zp45]; rfl) (isEls_map (f := Win.pv) (fun a => ⟨rfl, by rw [Try.cz45]; rfl⟩) [⟨g0, g1, g2, 1 + g4⟩]) (by rw [Try.by45]; decide) (by rw [Try.by45]; simp; omega) (v := .own s1.nxt 0 (x.wins.length + 1)) (s' := (s1.set (s.nxt + 1 + 1 + 1) none).new (.row 45 (x.wins.map Win.pv ++ [.agg [.int .i64 g0, .int .i64 g1, .int .i64 g2, .int .i64 (1 + g4)]]))) (by unfold aAppendOwn; rw [bB]; simp only [ne_eq, List.cons_ne_nil, not_false_eq_true, List.length_map, Nat.le_refl, and_self, if_true, List.length_cons, List.length_nil, Nat.zero_add]; rw [List.take_of_length_le (by rw [List.length_map]; exact Nat.le_refl _)]; rfl) ?_
                refine rh [4, 8] (k := rB (k := ?_))
                have hxo := ht.ok.tens x hxm
                have hbw := hxo.bw
                have hbs := hxo.bs
                refine rp [4, 8] (k := ?_)
                exact hJb0 _ _ ⟨rfl, au, ⟨t.frame, t.tens.set k (⟨x.unit, x.fns, x.queue, x.wins ++ [⟨g0, g1, g2, 1 + g4⟩], x.slts⟩ : Ten)⟩, few_set (k := k) (x' := (⟨x.unit, x.fns, x.queue, x.wins ++ [⟨g0, g1, g2, 1 + g4⟩], x.slts⟩ : Ten)) ht ⟨hxo.unit, hxo.fns, hxo.queue, fun a ha => (List.mem_append.1 ha).elim (hxo.wins a) (fun h => by rw [List.mem_singleton.1 h]; exact ⟨⟨by (try simp only []); omega, by (try simp only []); omega⟩, ⟨by (try simp only []); omega, by (try simp only []); omega⟩, ⟨by (try simp only []); omega, by (try simp only []); omega⟩, ⟨by (try simp only []); omega, by (try simp only []); omega⟩⟩), hxo.slts, by (try simp only [List.length_set, List.length_append, List.length_cons, List.length_nil]); omega, hxo.bs⟩ (by (try simp only [List.length_set, List.length_append, List.length_cons, List.length_nil]); omega) (by (try simp only [List.length_set, List.length_append, List.length_cons, List.length_nil]); omega) hm ht.ok.frame, odd_done (by repeat (first | exact F1 | refine Fr.new ?_ _ | refine Fr.set ?_ (by omega) (by first | omega | (simp only [nxt_new, nxt_set]; omega)) _)) (by first | omega | (simp only [go_sem]; omega)) au (by omega) au ⟨.own s1.nxt 0 (x.wins.length + 1), .own (s.nxt + 1 + 1 + 1 + 1) 0 x.slts.length, rfl, .inr ⟨s1.nxt, _, by simp, by omega, (by first | (exact au) | (simp only [List.map_set, List.map_append, List.map_cons, List.map_nil]; exact au))⟩, .inr ⟨(s.nxt + 1 + 1 + 1 + 1), _, by simp, by omega, (by first | (exact au) | (simp only [List.map_set, List.map_append, List.map_cons, List.map_nil]; exact au))⟩⟩⟩
              · have hc := hc6
                refine rs (k := rg [3, 4, 8, 10, 11, 12, 56, 130] (k := rc (ht := fun hc7 => ?_) (hf := fun hc7 => ?_)))
                · have hc := hc7
                  refine rs (k := rg [3, 4, 8, 10, 11, 138] (k := rc (ht := fun hc8 => ?_) (hf := fun hc8 => ?_)))
                  · have hc := hc8
                    have hwl2 : wi < x.wins.length := by have := of_decide_eq_true hc; omega
                    have hwi1 : ((wi : Int) < (x.wins.length : Int)) = True := eq_true (by omega)
                    obtain ⟨w, hwe⟩ : ∃ z_, x.wins[wi]'hwl2 = z_ := ⟨_, rfl⟩
                    have hxw : (x.wins.map Win.pv)[wi]? = some (.agg [.int .i64 (w).space, .int .i64 (w).virt, .int .i64 (w).phys, .int .i64 (w).cnt]) := by rw [map_get hwl2, hwe]; rfl
                    have H := aj hwi1 (aj hxw H)
                    refine rg [4, 8] (k := rB (k := ?_))
                    have hxo := ht.ok.tens x hxm
                    have hbw := hxo.bw
                    have hbs := hxo.bs
                    have hwo : w.ok := hxo.wins w (by rw [← hwe]; exact List.getElem_mem _)
                    refine rp [4, 8] (k := ?_)
                    exact hJb0 _ _ ⟨rfl, au, ⟨t.frame, t.tens.set k (⟨x.unit, x.fns, x.queue, x.wins.set wi ⟨w.space, w.virt, n, w.cnt⟩, x.slts⟩ : Ten)⟩, few_set (k := k) (x' := (⟨x.unit, x.fns, x.queue, x.wins.set wi ⟨w.space, w.virt, n, w.cnt⟩, x.slts⟩ : Ten)) ht ⟨hxo.unit, hxo.fns, hxo.queue, fun v hv => (List.mem_or_eq_of_mem_set hv).elim (hxo.wins v) (fun h => by rw [h]; exact ⟨hwo.space, hwo.virt, hnI, hwo.cnt⟩), hxo.slts, by rw [List.length_set]; exact hbw, hxo.bs⟩ (by (try simp only [List.length_set, List.length_append, List.length_cons, List.length_nil]); omega) (by (try simp only [List.length_set, List.length_append, List.length_cons, List.length_nil]); omega) hm ht.ok.frame, odd_done (by repeat (first | exact F1 | refine Fr.new ?_ _ | refine Fr.set ?_ (by omega) (by first | omega | (simp only [nxt_new, nxt_set]; omega)) _)) (by first | omega | (simp only [go_sem]; omega)) au (by omega) au ⟨.own (s.nxt + 1 + 1 + 1) 0 x.wins.length, .own (s.nxt + 1 + 1 + 1 + 1) 0 x.slts.length, rfl, .inr ⟨(s.nxt + 1 + 1 + 1), _, by simp, by omega, (by first | (exact au) | (simp only [List.map_set, List.map_append, List.map_cons, List.map_nil]; exact au))⟩, .inr ⟨(s.nxt + 1 + 1 + 1 + 1), _, by simp, by omega, (by first | (exact au) | (simp only [List.map_set, List.map_append, List.map_cons, List.map_nil]; exact au))⟩⟩⟩
                  · have hc := hc8
                    refine rk (k := rB (k := ?_))
                    have hxo := ht.ok.tens x hxm
                    have hbw := hxo.bw
                    have hbs := hxo.bs
                    refine rp [4, 8] (k := ?_)
                    exact hJb0 _ _ ⟨rfl, au, ⟨t.frame, t.tens.set k (⟨x.unit, x.fns, x.queue, x.wins, x.slts⟩ : Ten)⟩, few_set (k := k) (x' := (⟨x.unit, x.fns, x.queue, x.wins, x.slts⟩ : Ten)) ht ⟨hxo.unit, hxo.fns, hxo.queue, hxo.wins, hxo.slts, hxo.bw, hxo.bs⟩ (by (try simp only [List.length_set, List.length_append, List.length_cons, List.length_nil]); omega) (by (try simp only [List.length_set, List.length_append, List.length_cons, List.length_nil]); omega) hm ht.ok.frame, odd_done (by repeat (first | exact F1 | refine Fr.new ?_ _ | refine Fr.set ?_ (by omega) (by first | omega | (simp only [nxt_new, nxt_set]; omega)) _)) (by first | omega | (simp only [go_sem]; omega)) au (by omega) au ⟨.own (s.nxt + 1 + 1 + 1) 0 x.wins.length, .own (s.nxt + 1 + 1 + 1 + 1) 0 x.slts.length, rfl, .inr ⟨(s.nxt + 1 + 1 + 1), _, by simp, by omega, (by first | (exact au) | (simp only [List.map_set, List.map_append, List.map_cons, List.map_nil]; exact au))⟩, .inr ⟨(s.nxt + 1 + 1 + 1 + 1), _, by simp, by omega, (by first | (exact au) | (simp only [List.map_set, List.map_append, List.map_cons, List.map_nil]; exact au))⟩⟩⟩
                · have hc := hc7
                  refine rs (k := rg [3, 4, 8, 10, 11, 12, 56, 147] (k := rc (ht := fun hc9 => ?_) (hf := fun hc9 => ?_)))
                  · have hc := hc9
                    refine rs (k := rg [3, 4, 8, 10, 11, 155] (k := rc (ht := fun hc10 => ?_) (hf := fun hc10 => ?_)))
                    · have hc := hc10
                      have hwl2 : wi < x.wins.length := by have := of_decide_eq_true hc; omega
                      have hwi1 : ((wi : Int) < (x.wins.length : Int)) = True := eq_true (by omega)
                      obtain ⟨w, hwe⟩ : ∃ z_, x.wins[wi]'hwl2 = z_ := ⟨_, rfl⟩
                      have hxw : (x.wins.map Win.pv)[wi]? = some (.agg [.int .i64 (w).space, .int .i64 (w).virt, .int .i64 (w).phys, .int .i64 (w).cnt]) := by rw [map_get hwl2, hwe]; rfl
                      have H := aj hwi1 (aj hxw H)
                      refine rg [4, 8] (k := rB (k := ?_))
                      have hxo := ht.ok.tens x hxm
                      have hbw := hxo.bw
                      have hbs := hxo.bs
                      have hwo : w.ok := hxo.wins w (by rw [← hwe]; exact List.getElem_mem _)
                      refine rp [4, 8] (k := ?_)
                      exact hJb0 _ _ ⟨rfl, au, ⟨t.frame, t.tens.set k (⟨x.unit, x.fns, x.queue, x.wins.set wi ⟨w.space, n, w.phys, w.cnt⟩, x.slts⟩ : Ten)⟩, few_set (k := k) (x' := (⟨x.unit, x.fns, x.queue, x.wins.set wi ⟨w.space, n, w.phys, w.cnt⟩, x.slts⟩ : Ten)) ht ⟨hxo.unit, hxo.fns, hxo.queue, fun v hv => (List.mem_or_eq_of_mem_set hv).elim (hxo.wins v) (fun h => by rw [h]; exact ⟨hwo.space, hnI, hwo.phys, hwo.cnt⟩), hxo.slts, by rw [List.length_set]; exact hbw, hxo.bs⟩ (by (try simp only [List.length_set, List.length_append, List.length_cons, List.length_nil]); omega) (by (try simp only [List.length_set, List.length_append, List.length_cons, List.length_nil]); omega) hm ht.ok.frame, odd_done (by repeat (first | exact F1 | refine Fr.new ?_ _ | refine Fr.set ?_ (by omega) (by first | omega | (simp only [nxt_new, nxt_set]; omega)) _)) (by first | omega | (simp only [go_sem]; omega)) au (by omega) au ⟨.own (s.nxt + 1 + 1 + 1) 0 x.wins.length, .own (s.nxt + 1 + 1 + 1 + 1) 0 x.slts.length, rfl, .inr ⟨(s.nxt + 1 + 1 + 1), _, by simp, by omega, (by first | (exact au) | (simp only [List.map_set, List.map_append, List.map_cons, List.map_nil]; exact au))⟩, .inr ⟨(s.nxt + 1 + 1 + 1 + 1), _, by simp, by omega, (by first | (exact au) | (simp only [List.map_set, List.map_append, List.map_cons, List.map_nil]; exact au))⟩⟩⟩
                    · have hc := hc10
                      refine rk (k := rB (k := ?_))
                      have hxo := ht.ok.tens x hxm
                      have hbw := hxo.bw
                      have hbs := hxo.bs
                      refine rp [4, 8] (k := ?_)
                      exact hJb0 _ _ ⟨rfl, au, ⟨t.frame, t.tens.set k (⟨x.unit, x.fns, x.queue, x.wins, x.slts⟩ : Ten)⟩, few_set (k := k) (x' := (⟨x.unit, x.fns, x.queue, x.wins, x.slts⟩ : Ten)) ht ⟨hxo.unit, hxo.fns, hxo.queue, hxo.wins, hxo.slts, hxo.bw, hxo.bs⟩ (by (try simp only [List.length_set, List.length_append, List.length_cons, List.length_nil]); omega) (by (try simp only [List.length_set, List.length_append, List.length_cons, List.length_nil]); omega) hm ht.ok.frame, odd_done (by repeat (first | exact F1 | refine Fr.new ?_ _ | refine Fr.set ?_ (by omega) (by first | omega | (simp only [nxt_new, nxt_set]; omega)) _)) (by first | omega | (simp only [go_sem]; omega)) au (by omega) au ⟨.own (s.nxt + 1 + 1 + 1) 0 x.wins.length, .own (s.nxt + 1 + 1 + 1 + 1) 0 x.slts.length, rfl, .inr ⟨(s.nxt + 1 + 1 + 1), _, by simp, by omega, (by first | (exact au) | (simp only [List.map_set, List.map_append, List.map_cons, List.map_nil]; exact au))⟩, .inr ⟨(s.nxt + 1 + 1 + 1 + 1), _, by simp, by omega, (by first | (exact au) | (simp only [List.map_set, List.map_append, List.map_cons, List.map_nil]; exact au))⟩⟩⟩
                  · have hc := hc9
                    refine rs (k := rg [3, 4, 8, 10, 11, 12, 56, 164] (k := rc (ht := fun hc11 => ?_) (hf := fun hc11 => ?_)))
                    · have hc := hc11
                      refine rs (k := rg [3, 4, 8, 10, 11, 172] (k := rc (ht := fun hc12 => ?_) (hf := fun hc12 => ?_)))
                      · have hc := hc12
                        have hwl2 : wi < x.wins.length := by have := of_decide_eq_true hc; omega
                        have hwi1 : ((wi : Int) < (x.wins.length : Int)) = True := eq_true (by omega)
                        obtain ⟨w, hwe⟩ : ∃ z_, x.wins[wi]'hwl2 = z_ := ⟨_, rfl⟩
                        have hxw : (x.wins.map Win.pv)[wi]? = some (.agg [.int .i64 (w).space, .int .i64 (w).virt, .int .i64 (w).phys, .int .i64 (w).cnt]) := by rw [map_get hwl2, hwe]; rfl
                        have H := aj hwi1 (aj hxw H)
                        refine rg [4, 8] (k := rB (k := ?_))
                        have hxo := ht.ok.tens x hxm
                        have hbw := hxo.bw
                        have hbs := hxo.bs
                        have hwo : w.ok := hxo.wins w (by rw [← hwe]; exact List.getElem_mem _)
                        refine rp [4, 8] (k := ?_)
                        exact hJb0 _ _ ⟨rfl, au, ⟨t.frame, t.tens.set k (⟨x.unit, x.fns, x.queue, x.wins.set wi ⟨w.space, w.virt, w.phys, n⟩, x.slts⟩ : Ten)⟩, few_set (k := k) (x' := (⟨x.unit, x.fns, x.queue, x.wins.set wi ⟨w.space, w.virt, w.phys, n⟩, x.slts⟩ : Ten)) ht ⟨hxo.unit, hxo.fns, hxo.queue, fun v hv => (List.mem_or_eq_of_mem_set hv).elim (hxo.wins v) (fun h => by rw [h]; exact ⟨hwo.space, hwo.virt, hwo.phys, hnI⟩), hxo.slts, by rw [List.length_set]; exact hbw, hxo.bs⟩ (by (try simp only [List.length_set, List.length_append, List.length_cons, List.length_nil]); omega) (by (try simp only [List.length_set, List.length_append, List.length_cons, List.length_nil]); omega) hm ht.ok.frame, odd_done (by repeat (first | exact F1 | refine Fr.new ?_ _ | refine Fr.set ?_ (by omega) (by first | omega | (simp only [nxt_new, nxt_set]; omega)) _)) (by first | omega | (simp only [go_sem]; omega)) au (by omega) au ⟨.own (s.nxt + 1 + 1 + 1) 0 x.wins.length, .own (s.nxt + 1 + 1 + 1 + 1) 0 x.slts.length, rfl, .inr ⟨(s.nxt + 1 + 1 + 1), _, by simp, by omega, (by first | (exact au) | (simp only [List.map_set, List.map_append, List.map_cons, List.map_nil]; exact au))⟩, .inr ⟨(s.nxt + 1 + 1 + 1 + 1), _, by simp, by omega, (by first | (exact au) | (simp only [List.map_set, List.map_append, List.map_cons, List.map_nil]; exact au))⟩⟩⟩
                      · have hc := hc12
                        refine rk (k := rB (k := ?_))
                        have hxo := ht.ok.tens x hxm
                        have hbw := hxo.bw
                        have hbs := hxo.bs
                        refine rp [4, 8] (k := ?_)
                        exact hJb0 _ _ ⟨rfl, au, ⟨t.frame, t.tens.set k (⟨x.unit, x.fns, x.queue, x.wins, x.slts⟩ : Ten)⟩, few_set (k := k) (x' := (⟨x.unit, x.fns, x.queue, x.wins, x.slts⟩ : Ten)) ht ⟨hxo.unit, hxo.fns, hxo.queue, hxo.wins, hxo.slts, hxo.bw, hxo.bs⟩ (by (try simp only [List.length_set, List.length_append, List.length_cons, List.length_nil]); omega) (by (try simp only [List.length_set, List.length_append, List.length_cons, List.length_nil]); omega) hm ht.ok.frame, odd_done (by repeat (first | exact F1 | refine Fr.new ?_ _ | refine Fr.set ?_ (by omega) (by first | omega | (simp only [nxt_new, nxt_set]; omega)) _)) (by first | omega | (simp only [go_sem]; omega)) au (by omega) au ⟨.own (s.nxt + 1 + 1 + 1) 0 x.wins.length, .own (s.nxt + 1 + 1 + 1 + 1) 0 x.slts.length, rfl, .inr ⟨(s.nxt + 1 + 1 + 1), _, by simp, by omega, (by first | (exact au) | (simp only [List.map_set, List.map_append, List.map_cons, List.map_nil]; exact au))⟩, .inr ⟨(s.nxt + 1 + 1 + 1 + 1), _, by simp, by omega, (by first | (exact au) | (simp only [List.map_set, List.map_append, List.map_cons, List.map_nil]; exact au))⟩⟩⟩
                    · have hc := hc11
                      refine rs (k := rg [3, 4, 8, 10, 11, 12, 56, 181] (k := rc (ht := fun hc13 => ?_) (hf := fun hc13 => ?_)))
                      · have hc := hc13
                        refine rs (k := rg [3, 4, 8, 10, 12, 189] (k := rc (ht := fun hc14 => ?_) (hf := fun hc14 => ?_)))
                        · have hc := hc14
                          have hsl2 : si < x.slts.length := by have := of_decide_eq_true hc; omega
                          have hsi1 : ((si : Int) < (x.slts.length : Int)) = True := eq_true (by omega)
                          obtain ⟨a, hae⟩ : ∃ z_, x.slts[si]'hsl2 = z_ := ⟨_, rfl⟩
                          have hxa : (x.slts.map Slt.pv)[si]? = some (.agg [.int .i64 (a).pos, .int .i64 (a).len]) := by rw [map_get hsl2, hae]; rfl
                          have H := aj hsi1 (aj hxa H)
                          refine rg [4, 8] (k := rB (k := ?_))
                          have hxo := ht.ok.tens x hxm
                          have hbw := hxo.bw
                          have hbs := hxo.bs
                          have hao : a.ok := hxo.slts a (by rw [← hae]; exact List.getElem_mem _)
                          refine rp [4, 8] (k := ?_)
                          exact hJb0 _ _ ⟨rfl, au, ⟨t.frame, t.tens.set k (⟨x.unit, x.fns, x.queue, x.wins, x.slts.set si ⟨n, a.len⟩⟩ : Ten)⟩, few_set (k := k) (x' := (⟨x.unit, x.fns, x.queue, x.wins, x.slts.set si ⟨n, a.len⟩⟩ : Ten)) ht ⟨hxo.unit, hxo.fns, hxo.queue, hxo.wins, fun v hv => (List.mem_or_eq_of_mem_set hv).elim (hxo.slts v) (fun h => by rw [h]; exact ⟨hnI, hao.len⟩), hxo.bw, by rw [List.length_set]; exact hbs⟩ (by (try simp only [List.length_set, List.length_append, List.length_cons, List.length_nil]); omega) (by (try simp only [List.length_set, List.length_append, List.length_cons, List.length_nil]); omega) hm ht.ok.frame, odd_done (by repeat (first | exact F1 | refine Fr.new ?_ _ | refine Fr.set ?_ (by omega) (by first | omega | (simp only [nxt_new, nxt_set]; omega)) _)) (by first | omega | (simp only [go_sem]; omega)) au (by omega) au ⟨.own (s.nxt + 1 + 1 + 1) 0 x.wins.length, .own (s.nxt + 1 + 1 + 1 + 1) 0 x.slts.length, rfl, .inr ⟨(s.nxt + 1 + 1 + 1), _, by simp, by omega, (by first | (exact au) | (simp only [List.map_set, List.map_append, List.map_cons, List.map_nil]; exact au))⟩, .inr ⟨(s.nxt + 1 + 1 + 1 + 1), _, by simp, by omega, (by first | (exact au) | (simp only [List.map_set, List.map_append, List.map_cons, List.map_nil]; exact au))⟩⟩⟩
                        · have hc := hc14
                          refine rk (k := rB (k := ?_))
                          have hxo := ht.ok.tens x hxm
                          have hbw := hxo.bw
                          have hbs := hxo.bs
                          refine rp [4, 8] (k := ?_)
                          exact hJb0 _ _ ⟨rfl, au, ⟨t.frame, t.tens.set k (⟨x.unit, x.fns, x.queue, x.wins, x.slts⟩ : Ten)⟩, few_set (k := k) (x' := (⟨x.unit, x.fns, x.queue, x.wins, x.slts⟩ : Ten)) ht ⟨hxo.unit, hxo.fns, hxo.queue, hxo.wins, hxo.slts, hxo.bw, hxo.bs⟩ (by (try simp only [List.length_set, List.length_append, List.length_cons, List.length_nil]); omega) (by (try simp only [List.length_set, List.length_append, List.length_cons, List.length_nil]); omega) hm ht.ok.frame, odd_done (by repeat (first | exact F1 | refine Fr.new ?_ _ | refine Fr.set ?_ (by omega) (by first | omega | (simp only [nxt_new, nxt_set]; omega)) _)) (by first | omega | (simp only [go_sem]; omega)) au (by omega) au ⟨.own (s.nxt + 1 + 1 + 1) 0 x.wins.length, .own (s.nxt + 1 + 1 + 1 + 1) 0 x.slts.length, rfl, .inr ⟨(s.nxt + 1 + 1 + 1), _, by simp, by omega, (by first | (exact au) | (simp only [List.map_set, List.map_append, List.map_cons, List.map_nil]; exact au))⟩, .inr ⟨(s.nxt + 1 + 1 + 1 + 1), _, by simp, by omega, (by first | (exact au) | (simp only [List.map_set, List.map_append, List.map_cons, List.map_nil]; exact au))⟩⟩⟩
                      · have hc := hc13
                        refine rs (k := rg [3, 4, 8, 10, 11, 12, 56, 198] (k := rc (ht := fun hc15 => ?_) (hf := fun hc15 => ?_)))
                        · have hc := hc15
                          refine rs (k := rg [3, 4, 8, 10, 12, 206] (k := rc (ht := fun hc16 => ?_) (hf := fun hc16 => ?_)))
                          · have hc := hc16
                            have hsl2 : si < x.slts.length := by have := of_decide_eq_true hc; omega
                            have hsi1 : ((si : Int) < (x.slts.length : Int)) = True := eq_true (by omega)
                            obtain ⟨a, hae⟩ : ∃ z_, x.slts[si]'hsl2 = z_ := ⟨_, rfl⟩
                            have hxa : (x.slts.map Slt.pv)[si]? = some (.agg [.int .i64 (a).pos, .int .i64 (a).len]) := by rw [map_get hsl2, hae]; rfl
                            have H := aj hsi1 (aj hxa H)
                            refine rg [4, 8] (k := rB (k := ?_))
                            have hxo := ht.ok.tens x hxm
                            have hbw := hxo.bw
                            have hbs := hxo.bs
                            have hao : a.ok := hxo.slts a (by rw [← hae]; exact List.getElem_mem _)
                            refine rp [4, 8] (k := ?_)
                            exact hJb0 _ _ ⟨rfl, au, ⟨t.frame, t.tens.set k (⟨x.unit, x.fns, x.queue, x.wins, x.slts.set si ⟨a.pos, n⟩⟩ : Ten)⟩, few_set (k := k) (x' := (⟨x.unit, x.fns, x.queue, x.wins, x.slts.set si ⟨a.pos, n⟩⟩ : Ten)) ht ⟨hxo.unit, hxo.fns, hxo.queue, hxo.wins, fun v hv => (List.mem_or_eq_of_mem_set hv).elim (hxo.slts v) (fun h => by rw [h]; exact ⟨hao.pos, hnI⟩), hxo.bw, by rw [List.length_set]; exact hbs⟩ (by (try simp only [List.length_set, List.length_append, List.length_cons, List.length_nil]); omega) (by (try simp only [List.length_set, List.length_append, List.length_cons, List.length_nil]); omega) hm ht.ok.frame, odd_done (by repeat (first | exact F1 | refine Fr.new ?_ _ | refine Fr.set ?_ (by omega) (by first | omega | (simp only [nxt_new, nxt_set]; omega)) _)) (by first | omega | (simp only [go_sem]; omega)) au (by omega) au ⟨.own (s.nxt + 1 + 1 + 1) 0 x.wins.length, .own (s.nxt + 1 + 1 + 1 + 1) 0 x.slts.length, rfl, .inr ⟨(s.nxt + 1 + 1 + 1), _, by simp, by omega, (by first | (exact au) | (simp only [List.map_set, List.map_append, List.map_cons, List.map_nil]; exact au))⟩, .inr ⟨(s.nxt + 1 + 1 + 1 + 1), _, by simp, by omega, (by first | (exact au) | (simp only [List.map_set, List.map_append, List.map_cons, List.map_nil]; exact au))⟩⟩⟩
                          · have hc := hc16
                            refine rk (k := rB (k := ?_))
                            have hxo := ht.ok.tens x hxm
                            have hbw := hxo.bw
                            have hbs := hxo.bs
                            refine rp [4, 8] (k := ?_)
                            exact hJb0 _ _ ⟨rfl, au, ⟨t.frame, t.tens.set k (⟨x.unit, x.fns, x.queue, x.wins, x.slts⟩ : Ten)⟩, few_set (k := k) (x' := (⟨x.unit, x.fns, x.queue, x.wins, x.slts⟩ : Ten)) ht ⟨hxo.unit, hxo.fns, hxo.queue, hxo.wins, hxo.slts, hxo.bw, hxo.bs⟩ (by (try simp only [List.length_set, List.length_append, List.length_cons, List.length_nil]); omega) (by (try simp only [List.length_set, List.length_append, List.length_cons, List.length_nil]); omega) hm ht.ok.frame, odd_done (by repeat (first | exact F1 | refine Fr.new ?_ _ | refine Fr.set ?_ (by omega) (by first | omega | (simp only [nxt_new, nxt_set]; omega)) _)) (by first | omega | (simp only [go_sem]; omega)) au (by omega) au ⟨.own (s.nxt + 1 + 1 + 1) 0 x.wins.length, .own (s.nxt + 1 + 1 + 1 + 1) 0 x.slts.length, rfl, .inr ⟨(s.nxt + 1 + 1 + 1), _, by simp, by omega, (by first | (exact au) | (simp only [List.map_set, List.map_append, List.map_cons, List.map_nil]; exact au))⟩, .inr ⟨(s.nxt + 1 + 1 + 1 + 1), _, by simp, by omega, (by first | (exact au) | (simp only [List.map_set, List.map_append, List.map_cons, List.map_nil]; exact au))⟩⟩⟩
                        · have hc := hc15
                          refine rs (k := rg [3, 4, 8, 10, 11, 56, 215] (k := rc (ht := fun hc17 => ?_) (hf := fun hc17 => ?_)))
                          · have hc := hc17
                            refine Run.drawCut 6 [] Try.mixed (by kernel_rfl) (by kernel_rfl) ?_
                            refine DetC.all au ?_
                            refine RunO.appendOwn au au au Try.td22 (by rw [Try.zp43]; rfl) (fun p hp => by rw [List.mem_singleton.1 hp]; exact ⟨rfl, by rw [Try.cz43]; rfl⟩) (by rw [Try.by43]; decide) (by rw [Try.by43]; simp; omega) (v := .own s1.nxt 0 (t.tens.length + 1)) (s' := (s1.set (s.nxt + 1 + 1) none).new (.row 43 ((t.tens.map Ten.pv).set k (.agg [.int .i64 x.unit, .int .u32 x.fns, .int .i64 x.queue, .own (s.nxt + 1 + 1 + 1) 0 x.wins.length, .own (s.nxt + 1 + 1 + 1 + 1) 0 x.slts.length]) ++ [.agg [.int .i64 x.unit, .int .u32 x.fns, .int .i64 x.queue, .own (s.nxt + 1 + 1 + 1) 0 x.wins.length, .own (s.nxt + 1 + 1 + 1 + 1) 0 x.slts.length]]))) (by unfold aAppendOwn; rw [bA]; simp only [ne_eq, List.cons_ne_nil, not_false_eq_true, List.length_set, List.length_map, Nat.le_refl, and_self, if_true, List.length_cons, List.length_nil, Nat.zero_add]; rw [List.take_of_length_le (by simp)]) ?_
                            refine rh [4, 8] (k := rB (k := ?_))
                            have hxo := ht.ok.tens x hxm
                            have hbw := hxo.bw
                            have hbs := hxo.bs
                            refine rp [4, 8] (k := ?_)
                            exact hJb0 _ _ ⟨rfl, au, ⟨t.frame, t.tens.set k (⟨x.unit, x.fns, x.queue, x.wins, x.slts⟩ : Ten) ++ [(⟨x.unit, x.fns, x.queue, x.wins, x.slts⟩ : Ten)]⟩, few_app (t := ⟨t.frame, t.tens.set k (⟨x.unit, x.fns, x.queue, x.wins, x.slts⟩ : Ten)⟩) (x := (⟨x.unit, x.fns, x.queue, x.wins, x.slts⟩ : Ten)) (few_set (k := k) (x' := (⟨x.unit, x.fns, x.queue, x.wins, x.slts⟩ : Ten)) ht ⟨hxo.unit, hxo.fns, hxo.queue, hxo.wins, hxo.slts, hxo.bw, hxo.bs⟩ (by (try simp only [List.length_set, List.length_append, List.length_cons, List.length_nil]); omega) (by (try simp only [List.length_set, List.length_append, List.length_cons, List.length_nil]); omega) hm ht.ok.frame) ⟨hxo.unit, hxo.fns, hxo.queue, hxo.wins, hxo.slts, hxo.bw, hxo.bs⟩ (by (try simp only [List.length_set, List.length_append, List.length_cons, List.length_nil]); omega) (by (try simp only [List.length_set, List.length_append, List.length_cons, List.length_nil]); omega) (by (try simp only [List.length_set, List.length_append, List.length_cons, List.length_nil]); omega) hm, odd_app (by repeat (first | exact F1 | refine Fr.new ?_ _ | refine Fr.set ?_ (by omega) (by first | omega | (simp only [nxt_new, nxt_set]; omega)) _)) (by first | omega | (simp only [go_sem]; omega)) au (by omega) au ⟨.own (s.nxt + 1 + 1 + 1) 0 x.wins.length, .own (s.nxt + 1 + 1 + 1 + 1) 0 x.slts.length, rfl, .inr ⟨(s.nxt + 1 + 1 + 1), _, by simp, by omega, (by first | (exact au) | (simp only [List.map_set, List.map_append, List.map_cons, List.map_nil]; exact au))⟩, .inr ⟨(s.nxt + 1 + 1 + 1 + 1), _, by simp, by omega, (by first | (exact au) | (simp only [List.map_set, List.map_append, List.map_cons, List.map_nil]; exact au))⟩⟩⟩
                          · have hc := hc17
                            refine rs (k := rg [3, 4, 8, 10, 11, 225] (k := rc (ht := fun hc18 => ?_) (hf := fun hc18 => ?_)))
                            · have hc := hc18
                              refine rg [4, 8] (k := rB (k := ?_))
                              have hxo := ht.ok.tens x hxm
                              have hbw := hxo.bw
                              have hbs := hxo.bs
                              refine rp [4, 8] (k := ?_)
                              exact hJb0 _ _ ⟨rfl, au, ⟨t.frame, t.tens.set k (⟨x.unit, x.fns, x.queue, x.wins, []⟩ : Ten)⟩, few_set (k := k) (x' := (⟨x.unit, x.fns, x.queue, x.wins, []⟩ : Ten)) ht ⟨hxo.unit, hxo.fns, hxo.queue, hxo.wins, fun a ha => (by cases ha), hxo.bw, by simp⟩ (by (try simp only [List.length_set, List.length_append, List.length_cons, List.length_nil]); omega) (by (try simp only [List.length_set, List.length_append, List.length_cons, List.length_nil]); omega) hm ht.ok.frame, odd_done (by repeat (first | exact F1 | refine Fr.new ?_ _ | refine Fr.set ?_ (by omega) (by first | omega | (simp only [nxt_new, nxt_set]; omega)) _)) (by first | omega | (simp only [go_sem]; omega)) au (by omega) au ⟨.own (s.nxt + 1 + 1 + 1) 0 x.wins.length, .sl .nil [], rfl, .inr ⟨(s.nxt + 1 + 1 + 1), _, by simp, by omega, (by first | (exact au) | (simp only [List.map_set, List.map_append, List.map_cons, List.map_nil]; exact au))⟩, .inl ⟨.nil, rfl⟩⟩⟩
                            · have hc := hc18
                              refine rs (k := rg [3, 4, 8, 10, 11, 63] (k := rc (ht := fun hc19 => ?_) (hf := fun hc19 => ?_)))
                              · have hc := hc19
                                have hwl2 : wi < x.wins.length := by have := of_decide_eq_true hc; omega
                                have hwi1 : ((wi : Int) < (x.wins.length : Int)) = True := eq_true (by omega)
                                obtain ⟨w, hwe⟩ : ∃ z_, x.wins[wi]'hwl2 = z_ := ⟨_, rfl⟩
                                have hxw : (x.wins.map Win.pv)[wi]? = some (.agg [.int .i64 (w).space, .int .i64 (w).virt, .int .i64 (w).phys, .int .i64 (w).cnt]) := by rw [map_get hwl2, hwe]; rfl
                                have hb7 := ibits_and_le n 7 (by decide)
                                obtain ⟨g7, hg7⟩ : ∃ y, ibits .and .i64 n 7 = y := ⟨_, rfl⟩
                                have hb7 : 0 ≤ g7 ∧ g7 ≤ 7 := hg7 ▸ hb7
                                have H := aj hwi1 (aj hxw (aj hg7 H))
                                refine rg [4, 8] (k := rB (k := ?_))
                                have hxo := ht.ok.tens x hxm
                                have hbw := hxo.bw
                                have hbs := hxo.bs
                                have hwo : w.ok := hxo.wins w (by rw [← hwe]; exact List.getElem_mem _)
                                refine rp [4, 8] (k := ?_)
                                exact hJb0 _ _ ⟨rfl, au, ⟨t.frame, t.tens.set k (⟨x.unit, x.fns, x.queue, x.wins.set wi ⟨g7, w.virt, w.phys, w.cnt⟩, x.slts⟩ : Ten)⟩, few_set (k := k) (x' := (⟨x.unit, x.fns, x.queue, x.wins.set wi ⟨g7, w.virt, w.phys, w.cnt⟩, x.slts⟩ : Ten)) ht ⟨hxo.unit, hxo.fns, hxo.queue, fun v hv => (List.mem_or_eq_of_mem_set hv).elim (hxo.wins v) (fun h => by rw [h]; exact ⟨(show I64 g7 from ⟨by omega, by omega⟩), hwo.virt, hwo.phys, hwo.cnt⟩), hxo.slts, by rw [List.length_set]; exact hbw, hxo.bs⟩ (by (try simp only [List.length_set, List.length_append, List.length_cons, List.length_nil]); omega) (by (try simp only [List.length_set, List.length_append, List.length_cons, List.length_nil]); omega) hm ht.ok.frame, odd_done (by repeat (first | exact F1 | refine Fr.new ?_ _ | refine Fr.set ?_ (by omega) (by first | omega | (simp only [nxt_new, nxt_set]; omega)) _)) (by first | omega | (simp only [go_sem]; omega)) au (by omega) au ⟨.own (s.nxt + 1 + 1 + 1) 0 x.wins.length, .own (s.nxt + 1 + 1 + 1 + 1) 0 x.slts.length, rfl, .inr ⟨(s.nxt + 1 + 1 + 1), _, by simp, by omega, (by first | (exact au) | (simp only [List.map_set, List.map_append, List.map_cons, List.map_nil]; exact au))⟩, .inr ⟨(s.nxt + 1 + 1 + 1 + 1), _, by simp, by omega, (by first | (exact au) | (simp only [List.map_set, List.map_append, List.map_cons, List.map_nil]; exact au))⟩⟩⟩
                              · have hc := hc19
                                refine rk (k := rB (k := ?_))
                                have hxo := ht.ok.tens x hxm
                                have hbw := hxo.bw
                                have hbs := hxo.bs
                                refine rp [4, 8] (k := ?_)
                                exact hJb0 _ _ ⟨rfl, au, ⟨t.frame, t.tens.set k (⟨x.unit, x.fns, x.queue, x.wins, x.slts⟩ : Ten)⟩, few_set (k := k) (x' := (⟨x.unit, x.fns, x.queue, x.wins, x.slts⟩ : Ten)) ht ⟨hxo.unit, hxo.fns, hxo.queue, hxo.wins, hxo.slts, hxo.bw, hxo.bs⟩ (by (try simp only [List.length_set, List.length_append, List.length_cons, List.length_nil]); omega) (by (try simp only [List.length_set, List.length_append, List.length_cons, List.length_nil]); omega) hm ht.ok.frame, odd_done (by repeat (first | exact F1 | refine Fr.new ?_ _ | refine Fr.set ?_ (by omega) (by first | omega | (simp only [nxt_new, nxt_set]; omega)) _)) (by first | omega | (simp only [go_sem]; omega)) au (by omega) au ⟨.own (s.nxt + 1 + 1 + 1) 0 x.wins.length, .own (s.nxt + 1 + 1 + 1 + 1) 0 x.slts.length, rfl, .inr ⟨(s.nxt + 1 + 1 + 1), _, by simp, by omega, (by first | (exact au) | (simp only [List.map_set, List.map_append, List.map_cons, List.map_nil]; exact au))⟩, .inr ⟨(s.nxt + 1 + 1 + 1 + 1), _, by simp, by omega, (by first | (exact au) | (simp only [List.map_set, List.map_append, List.map_cons, List.map_nil]; exact au))⟩⟩⟩
set_option maxRecDepth 100000 in
theorem odd_wn {t : Tab} {m : Nat} (hm : m ≤ 1000) (ht : t.few m) {what at_ n : Int} (hwI : I64 what) (haI : I64 at_) (hnI : I64 n) {k : Nat} (hkw : withinI at_ 0 (t.tens.length - 1) = k) (hkl : k < t.tens.length) {x : Ten} (hxe : t.tens[k] = x) (hwe : x.wins ≠ []) (hse : x.slts = []) {s : St} : ACalls Try.prog 11 [t.pv, .int .i64 what, .int .i64 at_, .int .i64 n] s (fun r s' => ∃ t' : Tab, r = t'.pv ∧ t'.few (m + 1) ∧ s' = s) := by
  refine go Try.func11 (k := fun hwf H => ?_)
  have hnt := ht.nt
  have hxm : x ∈ t.tens := by rw [← hxe]; exact List.getElem_mem _
  have hnw := ht.nw x hxm
  have hns := ht.ns x hxm
  have hte : t.tens ≠ [] := fun h => by rw [h] at hkl; simp at hkl
  have hxx : (t.tens.map Ten.pv)[k]? = some (.agg [.int .i64 (x).unit, .int .u32 (x).fns, .int .i64 (x).queue, .sl .unk ((x).wins.map Win.pv), .sl .unk ((x).slts.map Slt.pv)]) := by rw [map_get hkl, hxe]; rfl
  have hgs : ∀ X, ((t.tens.map Ten.pv).set k X)[k]? = some X := fun X => by rw [List.getElem?_set]; simp [hkl]
  have hwl : IntKind.i64.wrap ((t.tens.length : Int) - 1) = (t.tens.length : Int) - 1 := wrap_i64 (by omega)
  have htl0 : ((t.tens.length : Int) = 0) = False := eq_false (by omega)
  have hk2 : ((k : Int) < (t.tens.length : Int)) = True := eq_true (by omega)
  have H := aj hgs (aj hwl (aj hkw (aj hk2 (aj htl0 (aj hse H)))))
  refine rs (k := rg [1, 2, 3, 4, 8] (k := rs (k := rr (k := rO (k := ro (pre := [_, _]) (k := ?_))))))
  refine RunO.appendFirst au au au Try.td22 (by rw [Try.zp43]; rfl) (isEls_none _ _) (isEls_map (f := Ten.pv) (fun a => ⟨rfl, by rw [Try.cz43]; rfl⟩) _) (by rw [Try.by43]; decide) (by rw [Try.by43]; simp; omega) (by simp only [aAppendFirst, List.map_eq_nil_iff, ne_eq, hte, not_false_eq_true, if_true, List.length_nil, Nat.zero_add, List.length_map, List.nil_append, go_sem]; rfl) ?_
  refine rh [1, 2, 3, 4, 8] (k := rs (k := rs (k := rg [1, 2, 3, 4, 8, 21] (k := rc (ht := fun hc0 => ?_) (hf := fun hc0 => ?_)))))
  · cases hc0
  · have hc := hc0
    refine rk (k := rs (k := rr (k := ro (pre := [_, _, _, _, _]) (k := rC (h := within_ (lo := 0) (hi := (t.tens.length : Int) - 1) (by decide) (by omega) (by omega)) (k := rh [1, 2, 3, 4, 8, 9] (k := rs (k := rg [1, 2, 3, 4, 8, 10] (k := rs (k := ?_)))))))))
    have H := aj hxx H
    refine rr (k := ro (pre := [_]) (k := rO (k := ro (pre := [_, _, _, _]) (k := ?_))))
    refine RunO.appendFirst au au au Try.td40 (by rw [Try.zp45]; rfl) (isEls_none _ _) (isEls_map (f := Win.pv) (fun a => ⟨rfl, by rw [Try.cz45]; rfl⟩) _) (by rw [Try.by45]; decide) (by rw [Try.by45]; simp; omega) (by simp only [aAppendFirst, List.map_eq_nil_iff, ne_eq, hwe, not_false_eq_true, if_true, List.length_nil, Nat.zero_add, List.length_map, List.nil_append, go_sem]; rfl) ?_
    refine rh [1, 2, 3, 4, 8, 10] (k := rs (k := rr (k := ro (pre := [_]) (k := rO (k := ro (pre := [_, _, _, _]) (k := ?_))))))
    refine RunO.append au au au Try.td41 (by rw [Try.zp48]; rfl) (isEls_none _ _) (isEls_none _ _) (by rw [Try.by48]; decide) (by simp) (v := .sl .clip []) (by unfold aAppend; rw [if_pos rfl]) ?_
    refine rh [1, 2, 3, 4, 8, 10] (k := rs (k := ?_))
    refine Run.abs (fun s1 => Fr s s1 ∧ s1.nxt = s.nxt + 1 + 1 + 1 + 1 ∧ s1.blk s.nxt = some (.row 24 [.agg [.int .i64 t.frame, .own (s.nxt + 1 + 1) 0 t.tens.length]]) ∧ s1.blk (s.nxt + 1) = some (.row 24 [.agg [.int .i64 0, .sl .nil []]]) ∧ s1.blk (s.nxt + 1 + 1) = some (.row 43 ((t.tens.map Ten.pv).set k (.agg [.int .i64 x.unit, .int .u32 x.fns, .int .i64 x.queue, .own (s.nxt + 1 + 1 + 1) 0 x.wins.length, .sl .clip []]))) ∧ s1.blk (s.nxt + 1 + 1 + 1) = some (.row 45 (x.wins.map Win.pv))) ⟨by repeat (first | exact Fr.refl hwf | refine Fr.new ?_ _ | refine Fr.set ?_ (by omega) (by simp only [nxt_new, nxt_set]; omega) _), by simp only [go_sem], by simp only [go_sem, ↓reduceIte, Nat.reduceEqDiff, Nat.reduceAdd], by simp only [go_sem, ↓reduceIte, Nat.reduceEqDiff, Nat.reduceAdd], by simp only [go_sem, ↓reduceIte, Nat.reduceEqDiff, Nat.reduceAdd], by simp only [go_sem, ↓reduceIte, Nat.reduceEqDiff, Nat.reduceAdd]⟩ ?_
    rintro s1 ⟨F1, hn1, b4, b8, bA, bB⟩
    have hwi0 := withinI_bound (n := n) (lo := 0) (hi := 5) (by decide)
    have hsi0 := withinI_bound (n := n) (lo := 0) (hi := 2) (by decide)
    obtain ⟨wi, hwi⟩ : ∃ y : Nat, withinI n 0 5 = y := ⟨_, (Int.toNat_of_nonneg hwi0.1).symm⟩
    obtain ⟨si, hsi⟩ : ∃ y : Nat, withinI n 0 2 = y := ⟨_, (Int.toNat_of_nonneg hsi0.1).symm⟩
    have z0 : (s.nxt = s1.nxt) = False := eq_false (by omega)
    have z1 : (s.nxt + 1 = s1.nxt) = False := eq_false (by omega)
    have z2 : (s.nxt + 1 + 1 = s1.nxt) = False := eq_false (by omega)
    have z3 : (s.nxt + 1 + 1 + 1 = s1.nxt) = False := eq_false (by omega)
    have y0 : (s1.nxt = s.nxt) = False := eq_false (by omega)
    have y1 : (s1.nxt = s.nxt + 1) = False := eq_false (by omega)
    have y2 : (s1.nxt = s.nxt + 1 + 1) = False := eq_false (by omega)
    have y3 : (s1.nxt = s.nxt + 1 + 1 + 1) = False := eq_false (by omega)
    have H := aj b4 (aj b8 (aj bA (aj bB (aj hwi (aj hsi (aj z0 (aj z1 (aj z2 (aj z3 (aj y0 (aj y1 (aj y2 (aj y3 H)))))))))))))
    refine rr (k := ro (pre := [_]) (k := rC (h := within_ (lo := 0) (hi := 5) (by decide) (by decide) (by decide)) (k := ro (pre := [_]) (k := rC (h := within_ (lo := 0) (hi := 2) (by decide) (by decide) (by decide)) (k := rh [1, 2, 3, 4, 8, 10, 11, 12] (k := rs (k := rs (k := rr (k := ro (pre := [_]) (k := rC (h := within_ (lo := 0) (hi := 13) (by decide) (by decide) (by decide)) (k := ?_)))))))))))
    refine rl [2, 3, 4, 8, 10, 11, 12, 56] (k := ?_)
    refine Run.join (fun e s' => e = [(4, .ptr s.nxt 0 0), (8, .ptr (s.nxt + 1) 0 0)] ∧ s'.blk (s.nxt + 1) = some (.row 24 [.agg [.int .i64 0, .sl .nil []]]) ∧ ∃ t' : Tab, t'.few (m + 1) ∧ OddR s s' t') ?_ ?_
    · rintro e s2 ⟨rfl, r0, t', hfew, hO⟩
      obtain ⟨A', els, r1, r2, r3, r4, r5⟩ := hO.row
      have H := aj r0 (aj r1 H)
      refine rs (k := rg [8] (k := rR (k := ?_)))
      exact Ret.pureF (r' := t'.pv) 7 (by simp only [Try.f11, go_sem, ↓reduceIte, r0, r1] <;> rfl) ((hO.set _).frz (by simp only [go_sem, ↓reduceIte]; exact r1)) (blw_tab _ _) hwf (hO.set _).fr.blk ⟨t', rfl, hfew, rfl⟩
    intro hJb0
    refine rb (k := rs (k := ?_))
    obtain ⟨wv, hwv⟩ : ∃ y, withinI what 0 13 = y := ⟨_, rfl⟩
    rw [hwv]
    refine rg [2, 3, 4, 8, 10, 11, 12, 56, 73] (k := rc (ht := fun hc1 => ?_) (hf := fun hc1 => ?_))
    · have hc := hc1
      refine rg [4, 8] (k := rB (k := ?_))
      have hxo := ht.ok.tens x hxm
      have hbw := hxo.bw
      have hbs := hxo.bs
      refine rp [4, 8] (k := ?_)
      exact hJb0 _ _ ⟨rfl, au, ⟨n, t.tens.set k (⟨x.unit, x.fns, x.queue, x.wins, x.slts⟩ : Ten)⟩, few_set (k := k) (x' := (⟨x.unit, x.fns, x.queue, x.wins, x.slts⟩ : Ten)) ht ⟨hxo.unit, hxo.fns, hxo.queue, hxo.wins, hxo.slts, hxo.bw, hxo.bs⟩ (by (try simp only [List.length_set, List.length_append, List.length_cons, List.length_nil]); omega) (by (try simp only [List.length_set, List.length_append, List.length_cons, List.length_nil]); omega) hm hnI, odd_done (by repeat (first | exact F1 | refine Fr.new ?_ _ | refine Fr.set ?_ (by omega) (by first | omega | (simp only [nxt_new, nxt_set]; omega)) _)) (by first | omega | (simp only [go_sem]; omega)) au (by omega) au ⟨.own (s.nxt + 1 + 1 + 1) 0 x.wins.length, .sl .clip [], rfl, .inr ⟨(s.nxt + 1 + 1 + 1), _, by simp, by omega, (by first | (exact au) | (simp only [List.map_set, List.map_append, List.map_cons, List.map_nil]; exact au))⟩, .inl ⟨.clip, by simp [hse]⟩⟩⟩
    · have hc := hc1
      refine rs (k := rg [2, 3, 4, 8, 10, 11, 12, 56, 77] (k := rc (ht := fun hc2 => ?_) (hf := fun hc2 => ?_)))
      · have hc := hc2
        refine rg [4, 8] (k := rB (k := ?_))
        have hxo := ht.ok.tens x hxm
        have hbw := hxo.bw
        have hbs := hxo.bs
        refine rp [4, 8] (k := ?_)
        exact hJb0 _ _ ⟨rfl, au, ⟨t.frame, t.tens.set k (⟨n, x.fns, x.queue, x.wins, x.slts⟩ : Ten)⟩, few_set (k := k) (x' := (⟨n, x.fns, x.queue, x.wins, x.slts⟩ : Ten)) ht ⟨hnI, hxo.fns, hxo.queue, hxo.wins, hxo.slts, hxo.bw, hxo.bs⟩ (by (try simp only [List.length_set, List.length_append, List.length_cons, List.length_nil]); omega) (by (try simp only [List.length_set, List.length_append, List.length_cons, List.length_nil]); omega) hm ht.ok.frame, odd_done (by repeat (first | exact F1 | refine Fr.new ?_ _ | refine Fr.set ?_ (by omega) (by first | omega | (simp only [nxt_new, nxt_set]; omega)) _)) (by first | omega | (simp only [go_sem]; omega)) au (by omega) au ⟨.own (s.nxt + 1 + 1 + 1) 0 x.wins.length, .sl .clip [], rfl, .inr ⟨(s.nxt + 1 + 1 + 1), _, by simp, by omega, (by first | (exact au) | (simp only [List.map_set, List.map_append, List.map_cons, List.map_nil]; exact au))⟩, .inl ⟨.clip, by simp [hse]⟩⟩⟩
      · have hc := hc2
        refine rs (k := rg [2, 3, 4, 8, 10, 11, 12, 56, 83] (k := rc (ht := fun hc3 => ?_) (hf := fun hc3 => ?_)))
        · have hc := hc3
          refine rg [4, 8] (k := rB (k := ?_))
          have hxo := ht.ok.tens x hxm
          have hbw := hxo.bw
          have hbs := hxo.bs
          refine rp [4, 8] (k := ?_)
          exact hJb0 _ _ ⟨rfl, au, ⟨t.frame, t.tens.set k (⟨x.unit, x.fns, n, x.wins, x.slts⟩ : Ten)⟩, few_set (k := k) (x' := (⟨x.unit, x.fns, n, x.wins, x.slts⟩ : Ten)) ht ⟨hxo.unit, hxo.fns, hnI, hxo.wins, hxo.slts, hxo.bw, hxo.bs⟩ (by (try simp only [List.length_set, List.length_append, List.length_cons, List.length_nil]); omega) (by (try simp only [List.length_set, List.length_append, List.length_cons, List.length_nil]); omega) hm ht.ok.frame, odd_done (by repeat (first | exact F1 | refine Fr.new ?_ _ | refine Fr.set ?_ (by omega) (by first | omega | (simp only [nxt_new, nxt_set]; omega)) _)) (by first | omega | (simp only [go_sem]; omega)) au (by omega) au ⟨.own (s.nxt + 1 + 1 + 1) 0 x.wins.length, .sl .clip [], rfl, .inr ⟨(s.nxt + 1 + 1 + 1), _, by simp, by omega, (by first | (exact au) | (simp only [List.map_set, List.map_append, List.map_cons, List.map_nil]; exact au))⟩, .inl ⟨.clip, by simp [hse]⟩⟩⟩
        · have hc := hc3
          refine rs (k := rg [2, 3, 4, 8, 10, 11, 12, 56, 89] (k := rc (ht := fun hc4 => ?_) (hf := fun hc4 => ?_)))
          · have hc := hc4
            refine rg [4, 8] (k := rB (k := ?_))
            have hxo := ht.ok.tens x hxm
            have hbw := hxo.bw
            have hbs := hxo.bs
            refine rp [4, 8] (k := ?_)
            exact hJb0 _ _ ⟨rfl, au, ⟨t.frame, t.tens.set k (⟨x.unit, IntKind.u32.wrap n, x.queue, x.wins, x.slts⟩ : Ten)⟩, few_set (k := k) (x' := (⟨x.unit, IntKind.u32.wrap n, x.queue, x.wins, x.slts⟩ : Ten)) ht ⟨hxo.unit, U32_wrap n, hxo.queue, hxo.wins, hxo.slts, hxo.bw, hxo.bs⟩ (by (try simp only [List.length_set, List.length_append, List.length_cons, List.length_nil]); omega) (by (try simp only [List.length_set, List.length_append, List.length_cons, List.length_nil]); omega) hm ht.ok.frame, odd_done (by repeat (first | exact F1 | refine Fr.new ?_ _ | refine Fr.set ?_ (by omega) (by first | omega | (simp only [nxt_new, nxt_set]; omega)) _)) (by first | omega | (simp only [go_sem]; omega)) au (by omega) au ⟨.own (s.nxt + 1 + 1 + 1) 0 x.wins.length, .sl .clip [], rfl, .inr ⟨(s.nxt + 1 + 1 + 1), _, by simp, by omega, (by first | (exact au) | (simp only [List.map_set, List.map_append, List.map_cons, List.map_nil]; exact au))⟩, .inl ⟨.clip, by simp [hse]⟩⟩⟩
          · have hc := hc4
            refine rs (k := rg [2, 3, 4, 8, 10, 11, 12, 56, 96] (k := rc (ht := fun hc5 => ?_) (hf := fun hc5 => ?_)))
            · have hc := hc5
              refine rr (k := ro (pre := [_, _, _, _, _, _, _]) (k := rO (k := ?_)))
              refine RunO.appendFirst au au au Try.td41 (by rw [Try.zp48]; rfl) (isEls_none _ _) (isEls_map (f := Slt.pv) (fun a => ⟨rfl, by rw [Try.cz48]; rfl⟩) [⟨n, 72⟩]) (by rw [Try.by48]; decide) (by rw [Try.by48]; simp) (v := .own s1.nxt 0 1) (s' := s1.new (.row 48 [.agg [.int .i64 n, .int .i64 72]])) (by simp [aAppendFirst, Slt.pv, Win.pv]) ?_
              refine rh [4, 8] (k := rB (k := ?_))
              have hxo := ht.ok.tens x hxm
              have hbw := hxo.bw
              have hbs := hxo.bs
              refine rp [4, 8] (k := ?_)
              exact hJb0 _ _ ⟨rfl, au, ⟨t.frame, t.tens.set k (⟨x.unit, x.fns, x.queue, x.wins, x.slts ++ [⟨n, 72⟩]⟩ : Ten)⟩, few_set (k := k) (x' := (⟨x.unit, x.fns, x.queue, x.wins, x.slts ++ [⟨n, 72⟩]⟩ : Ten)) ht ⟨hxo.unit, hxo.fns, hxo.queue, hxo.wins, fun a ha => (List.mem_append.1 ha).elim (hxo.slts a) (fun h => by rw [List.mem_singleton.1 h]; exact ⟨hnI, (show I64 72 by decide)⟩), hxo.bw, by (try simp only [List.length_set, List.length_append, List.length_cons, List.length_nil]); omega⟩ (by (try simp only [List.length_set, List.length_append, List.length_cons, List.length_nil]); omega) (by (try simp only [List.length_set, List.length_append, List.length_cons, List.length_nil]); omega) hm ht.ok.frame, odd_done (by repeat (first | exact F1 | refine Fr.new ?_ _ | refine Fr.set ?_ (by omega) (by first | omega | (simp only [nxt_new, nxt_set]; omega)) _)) (by first | omega | (simp only [go_sem]; omega)) au (by omega) au ⟨.own (s.nxt + 1 + 1 + 1) 0 x.wins.length, .own s1.nxt 0 1, rfl, .inr ⟨(s.nxt + 1 + 1 + 1), _, by simp, by omega, (by first | (exact au) | (simp only [List.map_set, List.map_append, List.map_cons, List.map_nil]; exact au))⟩, .inr ⟨s1.nxt, _, by simp [hse], by omega, (by first | (exact au) | (simp only [List.map_set, List.map_append, List.map_cons, List.map_nil]; exact au))⟩⟩⟩
            · have hc := hc5
              refine rs (k := rg [2, 3, 4, 8, 10, 11, 12, 56, 109] (k := rc (ht := fun hc6 => ?_) (hf := fun hc6 => ?_)))
              · have hc := hc6
                have hb0 := ibits_and_le n 3 (by decide)
                have hb1 := ibits_and_le at_ 1023 (by decide)
                have hb2 := ibits_and_le n 511 (by decide)
                have hb3 := ibits_and_le at_ 31 (by decide)
                obtain ⟨g0, hg0⟩ : ∃ y, ibits .and .i64 n 3 = y := ⟨_, rfl⟩
                obtain ⟨g1, hg1⟩ : ∃ y, ibits .and .i64 at_ 1023 = y := ⟨_, rfl⟩
                obtain ⟨g2, hg2⟩ : ∃ y, ibits .and .i64 n 511 = y := ⟨_, rfl⟩
                obtain ⟨g4, hg4⟩ : ∃ y, ibits .and .i64 at_ 31 = y := ⟨_, rfl⟩
                have hb0 : 0 ≤ g0 ∧ g0 ≤ 3 := hg0 ▸ hb0
                have hb1 : 0 ≤ g1 ∧ g1 ≤ 1023 := hg1 ▸ hb1
                have hb2 : 0 ≤ g2 ∧ g2 ≤ 511 := hg2 ▸ hb2
                have hb3 : 0 ≤ g4 ∧ g4 ≤ 31 := hg4 ▸ hb3
                have hg3 : IntKind.i64.wrap (1 + g4) = 1 + g4 := wrap_i64 (by omega)
                have H := aj hg0 (aj hg1 (aj hg2 (aj hg4 (aj hg3 H))))
                refine rr (k := ro (pre := [_, _, _, _, _, _, _, _, _, _, _, _, _, _, _]) (k := rO (k := ?_)))
                refine RunO.appendOwn au au au Try.td40 (by rw [Try.zp45]; rfl) (isEls_map (f := Win.pv) (fun a => ⟨rfl, by rw [Try.cz45]; rfl⟩) [⟨g0, g1, g2, 1 + g4⟩]) (by rw [Try.by45]; decide) (by rw [Try.by45]; simp; omega) (v := .own s1.nxt 0 (x.wins.length + 1)) (s' := (s1.set (s.nxt + 1 + 1 + 1) none).new (.row 45 (x.wins.map Win.pv ++ [.agg [.int .i64 g0, .int .i64 g1, .int .i64 g2, .int .i64 (1 + g4)]]))) (by unfold aAppendOwn; rw [bB]; simp only [ne_eq, List.cons_ne_nil, not_false_eq_true, List.length_map, Nat.le_refl, and_self, if_true, List.length_cons, List.length_nil, Nat.zero_add]; rw [List.take_of_length_le (by rw [List.length_map]; exact Nat.le_refl _)]; rfl) ?_
                refine rh [4, 8] (k := rB (k := ?_))
                have hxo := ht.ok.tens x hxm
                have hbw := hxo.bw
                have hbs := hxo.bs
                refine rp [4, 8] (k := ?_)
                exact hJb0 _ _ ⟨rfl, au, ⟨t.frame, t.tens.set k (⟨x.unit, x.fns, x.queue, x.wins ++ [⟨g0, g1, g2, 1 + g4⟩], x.slts⟩ : Ten)⟩, few_set (k := k) (x' := (⟨x.unit, x.fns, x.queue, x.wins ++ [⟨g0, g1, g2, 1 + g4⟩], x.slts⟩ : Ten)) ht ⟨hxo.unit, hxo.fns, hxo.queue, fun a ha => (List.mem_append.1 ha).elim (hxo.wins a) (fun h => by rw [List.mem_singleton.1 h]; exact ⟨⟨by (try simp only []); omega, by (try simp only []); omega⟩, ⟨by (try simp only []); omega, by (try simp only []); omega⟩, ⟨by (try simp only []); omega, by (try simp only []); omega⟩, ⟨by (try simp only []); omega, by (try simp only []); omega⟩⟩), hxo.slts, by (try simp only [List.length_set, List.length_append, List.length_cons, List.length_nil]); omega, hxo.bs⟩ (by (try simp only [List.length_set, List.length_append, List.length_cons, List.length_nil]); omega) (by (try simp only [List.length_set, List.length_append, List.length_cons, List.length_nil]); omega) hm ht.ok.frame, odd_done (by repeat (first | exact F1 | refine Fr.new ?_ _ | refine Fr.set ?_ (by omega) (by first | omega | (simp only [nxt_new, nxt_set]; omega)) _)) (by first | omega | (simp only [go_sem]; omega)) au (by omega) au ⟨.own s1.nxt 0 (x.wins.length + 1), .sl .clip [], rfl, .inr ⟨s1.nxt, _, by simp, by omega, (by first | (exact au) | (simp only [List.map_set, List.map_append, List.map_cons, List.map_nil]; exact au))⟩, .inl ⟨.clip, by simp [hse]⟩⟩⟩
              · have hc := hc6
                refine rs (k := rg [3, 4, 8, 10, 11, 12, 56, 130] (k := rc (ht := fun hc7 => ?_) (hf := fun hc7 => ?_)))
                · have hc := hc7
                  refine rs (k := rg [3, 4, 8, 10, 11, 138] (k := rc (ht := fun hc8 => ?_) (hf := fun hc8 => ?_)))
                  · have hc := hc8
                    have hwl2 : wi < x.wins.length := by have := of_decide_eq_true hc; omega
                    have hwi1 : ((wi : Int) < (x.wins.length : Int)) = True := eq_true (by omega)
                    obtain ⟨w, hwe⟩ : ∃ z_, x.wins[wi]'hwl2 = z_ := ⟨_, rfl⟩
                    have hxw : (x.wins.map Win.pv)[wi]? = some (.agg [.int .i64 (w).space, .int .i64 (w).virt, .int .i64 (w).phys, .int .i64 (w).cnt]) := by rw [map_get hwl2, hwe]; rfl
                    have H := aj hwi1 (aj hxw H)
                    refine rg [4, 8] (k := rB (k := ?_))
                    have hxo := ht.ok.tens x hxm
                    have hbw := hxo.bw
                    have hbs := hxo.bs
                    have hwo : w.ok := hxo.wins w (by rw [← hwe]; exact List.getElem_mem _)
                    refine rp [4, 8] (k := ?_)
                    exact hJb0 _ _ ⟨rfl, au, ⟨t.frame, t.tens.set k (⟨x.unit, x.fns, x.queue, x.wins.set wi ⟨w.space, w.virt, n, w.cnt⟩, x.slts⟩ : Ten)⟩, few_set (k := k) (x' := (⟨x.unit, x.fns, x.queue, x.wins.set wi ⟨w.space, w.virt, n, w.cnt⟩, x.slts⟩ : Ten)) ht ⟨hxo.unit, hxo.fns, hxo.queue, fun v hv => (List.mem_or_eq_of_mem_set hv).elim (hxo.wins v) (fun h => by rw [h]; exact ⟨hwo.space, hwo.virt, hnI, hwo.cnt⟩), hxo.slts, by rw [List.length_set]; exact hbw, hxo.bs⟩ (by (try simp only [List.length_set, List.length_append, List.length_cons, List.length_nil]); omega) (by (try simp only [List.length_set, List.length_append, List.length_cons, List.length_nil]); omega) hm ht.ok.frame, odd_done (by repeat (first | exact F1 | refine Fr.new ?_ _ | refine Fr.set ?_ (by omega) (by first | omega | (simp only [nxt_new, nxt_set]; omega)) _)) (by first | omega | (simp only [go_sem]; omega)) au (by omega) au ⟨.own (s.nxt + 1 + 1 + 1) 0 x.wins.length, .sl .clip [], rfl, .inr ⟨(s.nxt + 1 + 1 + 1), _, by simp, by omega, (by first | (exact au) | (simp only [List.map_set, List.map_append, List.map_cons, List.map_nil]; exact au))⟩, .inl ⟨.clip, by simp [hse]⟩⟩⟩
                  · have hc := hc8
                    refine rk (k := rB (k := ?_))
                    have hxo := ht.ok.tens x hxm
                    have hbw := hxo.bw
                    have hbs := hxo.bs
                    refine rp [4, 8] (k := ?_)
                    exact hJb0 _ _ ⟨rfl, au, ⟨t.frame, t.tens.set k (⟨x.unit, x.fns, x.queue, x.wins, x.slts⟩ : Ten)⟩, few_set (k := k) (x' := (⟨x.unit, x.fns, x.queue, x.wins, x.slts⟩ : Ten)) ht ⟨hxo.unit, hxo.fns, hxo.queue, hxo.wins, hxo.slts, hxo.bw, hxo.bs⟩ (by (try simp only [List.length_set, List.length_append, List.length_cons, List.length_nil]); omega) (by (try simp only [List.length_set, List.length_append, List.length_cons, List.length_nil]); omega) hm ht.ok.frame, odd_done (by repeat (first | exact F1 | refine Fr.new ?_ _ | refine Fr.set ?_ (by omega) (by first | omega | (simp only [nxt_new, nxt_set]; omega)) _)) (by first | omega | (simp only [go_sem]; omega)) au (by omega) au ⟨.own (s.nxt + 1 + 1 + 1) 0 x.wins.length, .sl .clip [], rfl, .inr ⟨(s.nxt + 1 + 1 + 1), _, by simp, by omega, (by first | (exact au) | (simp only [List.map_set, List.map_append, List.map_cons, List.map_nil]; exact au))⟩, .inl ⟨.clip, by simp [hse]⟩⟩⟩
                · have hc := hc7
                  refine rs (k := rg [3, 4, 8, 10, 11, 12, 56, 147] (k := rc (ht := fun hc9 => ?_) (hf := fun hc9 => ?_)))
                  · have hc := hc9
                    refine rs (k := rg [3, 4, 8, 10, 11, 155] (k := rc (ht := fun hc10 => ?_) (hf := fun hc10 => ?_)))
                    · have hc := hc10
                      have hwl2 : wi < x.wins.length := by have := of_decide_eq_true hc; omega
                      have hwi1 : ((wi : Int) < (x.wins.length : Int)) = True := eq_true (by omega)
                      obtain ⟨w, hwe⟩ : ∃ z_, x.wins[wi]'hwl2 = z_ := ⟨_, rfl⟩
                      have hxw : (x.wins.map Win.pv)[wi]? = some (.agg [.int .i64 (w).space, .int .i64 (w).virt, .int .i64 (w).phys, .int .i64 (w).cnt]) := by rw [map_get hwl2, hwe]; rfl
                      have H := aj hwi1 (aj hxw H)
                      refine rg [4, 8] (k := rB (k := ?_))
                      have hxo := ht.ok.tens x hxm
                      have hbw := hxo.bw
                      have hbs := hxo.bs
                      have hwo : w.ok := hxo.wins w (by rw [← hwe]; exact List.getElem_mem _)
                      refine rp [4, 8] (k := ?_)
                      exact hJb0 _ _ ⟨rfl, au, ⟨t.frame, t.tens.set k (⟨x.unit, x.fns, x.queue, x.wins.set wi ⟨w.space, n, w.phys, w.cnt⟩, x.slts⟩ : Ten)⟩, few_set (k := k) (x' := (⟨x.unit, x.fns, x.queue, x.wins.set wi ⟨w.space, n, w.phys, w.cnt⟩, x.slts⟩ : Ten)) ht ⟨hxo.unit, hxo.fns, hxo.queue, fun v hv => (List.mem_or_eq_of_mem_set hv).elim (hxo.wins v) (fun h => by rw [h]; exact ⟨hwo.space, hnI, hwo.phys, hwo.cnt⟩), hxo.slts, by rw [List.length_set]; exact hbw, hxo.bs⟩ (by (try simp only [List.length_set, List.length_append, List.length_cons, List.length_nil]); omega) (by (try simp only [List.length_set, List.length_append, List.length_cons, List.length_nil]); omega) hm ht.ok.frame, odd_done (by repeat (first | exact F1 | refine Fr.new ?_ _ | refine Fr.set ?_ (by omega) (by first | omega | (simp only [nxt_new, nxt_set]; omega)) _)) (by first | omega | (simp only [go_sem]; omega)) au (by omega) au ⟨.own (s.nxt + 1 + 1 + 1) 0 x.wins.length, .sl .clip [], rfl, .inr ⟨(s.nxt + 1 + 1 + 1), _, by simp, by omega, (by first | (exact au) | (simp only [List.map_set, List.map_append, List.map_cons, List.map_nil]; exact au))⟩, .inl ⟨.clip, by simp [hse]⟩⟩⟩
                    · have hc := hc10
                      refine rk (k := rB (k := ?_))
                      have hxo := ht.ok.tens x hxm
                      have hbw := hxo.bw
                      have hbs := hxo.bs
                      refine rp [4, 8] (k := ?_)
                      exact hJb0 _ _ ⟨rfl, au, ⟨t.frame, t.tens.set k (⟨x.unit, x.fns, x.queue, x.wins, x.slts⟩ : Ten)⟩, few_set (k := k) (x' := (⟨x.unit, x.fns, x.queue, x.wins, x.slts⟩ : Ten)) ht ⟨hxo.unit, hxo.fns, hxo.queue, hxo.wins, hxo.slts, hxo.bw, hxo.bs⟩ (by (try simp only [List.length_set, List.length_append, List.length_cons, List.length_nil]); omega) (by (try simp only [List.length_set, List.length_append, List.length_cons, List.length_nil]); omega) hm ht.ok.frame, odd_done (by repeat (first | exact F1 | refine Fr.new ?_ _ | refine Fr.set ?_ (by omega) (by first | omega | (simp only [nxt_new, nxt_set]; omega)) _)) (by first | omega | (simp only [go_sem]; omega)) au (by omega) au ⟨.own (s.nxt + 1 + 1 + 1) 0 x.wins.length, .sl .clip [], rfl, .inr ⟨(s.nxt + 1 + 1 + 1), _, by simp, by omega, (by first | (exact au) | (simp only [List.map_set, List.map_append, List.map_cons, List.map_nil]; exact au))⟩, .inl ⟨.clip, by simp [hse]⟩⟩⟩
                  · have hc := hc9
                    refine rs (k := rg [3, 4, 8, 10, 11, 12, 56, 164] (k := rc (ht := fun hc11 => ?_) (hf := fun hc11 => ?_)))
                    · have hc := hc11
                      refine rs (k := rg [3, 4, 8, 10, 11, 172] (k := rc (ht := fun hc12 => ?_) (hf := fun hc12 => ?_)))
                      · have hc := hc12
                        have hwl2 : wi < x.wins.length := by have := of_decide_eq_true hc; omega
                        have hwi1 : ((wi : Int) < (x.wins.length : Int)) = True := eq_true (by omega)
                        obtain ⟨w, hwe⟩ : ∃ z_, x.wins[wi]'hwl2 = z_ := ⟨_, rfl⟩
                        have hxw : (x.wins.map Win.pv)[wi]? = some (.agg [.int .i64 (w).space, .int .i64 (w).virt, .int .i64 (w).phys, .int .i64 (w).cnt]) := by rw [map_get hwl2, hwe]; rfl
                        have H := aj hwi1 (aj hxw H)
                        refine rg [4, 8] (k := rB (k := ?_))
                        have hxo := ht.ok.tens x hxm
                        have hbw := hxo.bw
                        have hbs := hxo.bs
                        have hwo : w.ok := hxo.wins w (by rw [← hwe]; exact List.getElem_mem _)
                        refine rp [4, 8] (k := ?_)
                        exact hJb0 _ _ ⟨rfl, au, ⟨t.frame, t.tens.set k (⟨x.unit, x.fns, x.queue, x.wins.set wi ⟨w.space, w.virt, w.phys, n⟩, x.slts⟩ : Ten)⟩, few_set (k := k) (x' := (⟨x.unit, x.fns, x.queue, x.wins.set wi ⟨w.space, w.virt, w.phys, n⟩, x.slts⟩ : Ten)) ht ⟨hxo.unit, hxo.fns, hxo.queue, fun v hv => (List.mem_or_eq_of_mem_set hv).elim (hxo.wins v) (fun h => by rw [h]; exact ⟨hwo.space, hwo.virt, hwo.phys, hnI⟩), hxo.slts, by rw [List.length_set]; exact hbw, hxo.bs⟩ (by (try simp only [List.length_set, List.length_append, List.length_cons, List.length_nil]); omega) (by (try simp only [List.length_set, List.length_append, List.length_cons, List.length_nil]); omega) hm ht.ok.frame, odd_done (by repeat (first | exact F1 | refine Fr.new ?_ _ | refine Fr.set ?_ (by omega) (by first | omega | (simp only [nxt_new, nxt_set]; omega)) _)) (by first | omega | (simp only [go_sem]; omega)) au (by omega) au ⟨.own (s.nxt + 1 + 1 + 1) 0 x.wins.length, .sl .clip [], rfl, .inr ⟨(s.nxt + 1 + 1 + 1), _, by simp, by omega, (by first | (exact au) | (simp only [List.map_set, List.map_append, List.map_cons, List.map_nil]; exact au))⟩, .inl ⟨.clip, by simp [hse]⟩⟩⟩
                      · have hc := hc12
                        refine rk (k := rB (k := ?_))
                        have hxo := ht.ok.tens x hxm
                        have hbw := hxo.bw
                        have hbs := hxo.bs
                        refine rp [4, 8] (k := ?_)
                        exact hJb0 _ _ ⟨rfl, au, ⟨t.frame, t.tens.set k (⟨x.unit, x.fns, x.queue, x.wins, x.slts⟩ : Ten)⟩, few_set (k := k) (x' := (⟨x.unit, x.fns, x.queue, x.wins, x.slts⟩ : Ten)) ht ⟨hxo.unit, hxo.fns, hxo.queue, hxo.wins, hxo.slts, hxo.bw, hxo.bs⟩ (by (try simp only [List.length_set, List.length_append, List.length_cons, List.length_nil]); omega) (by (try simp only [List.length_set, List.length_append, List.length_cons, List.length_nil]); omega) hm ht.ok.frame, odd_done (by repeat (first | exact F1 | refine Fr.new ?_ _ | refine Fr.set ?_ (by omega) (by first | omega | (simp only [nxt_new, nxt_set]; omega)) _)) (by first | omega | (simp only [go_sem]; omega)) au (by omega) au ⟨.own (s.nxt + 1 + 1 + 1) 0 x.wins.length, .sl .clip [], rfl, .inr ⟨(s.nxt + 1 + 1 + 1), _, by simp, by omega, (by first | (exact au) | (simp only [List.map_set, List.map_append, List.map_cons, List.map_nil]; exact au))⟩, .inl ⟨.clip, by simp [hse]⟩⟩⟩
                    · have hc := hc11
                      refine rs (k := rg [3, 4, 8, 10, 11, 12, 56, 181] (k := rc (ht := fun hc13 => ?_) (hf := fun hc13 => ?_)))
                      · have hc := hc13
                        refine rs (k := rg [3, 4, 8, 10, 12, 189] (k := rc (ht := fun hc14 => ?_) (hf := fun hc14 => ?_)))
                        · have hc := hc14
                          exfalso
                          have h := of_decide_eq_true hc
                          first | omega | (simp at h; omega)
                        · have hc := hc14
                          refine rk (k := rB (k := ?_))
                          have hxo := ht.ok.tens x hxm
                          have hbw := hxo.bw
                          have hbs := hxo.bs
                          refine rp [4, 8] (k := ?_)
                          exact hJb0 _ _ ⟨rfl, au, ⟨t.frame, t.tens.set k (⟨x.unit, x.fns, x.queue, x.wins, x.slts⟩ : Ten)⟩, few_set (k := k) (x' := (⟨x.unit, x.fns, x.queue, x.wins, x.slts⟩ : Ten)) ht ⟨hxo.unit, hxo.fns, hxo.queue, hxo.wins, hxo.slts, hxo.bw, hxo.bs⟩ (by (try simp only [List.length_set, List.length_append, List.length_cons, List.length_nil]); omega) (by (try simp only [List.length_set, List.length_append, List.length_cons, List.length_nil]); omega) hm ht.ok.frame, odd_done (by repeat (first | exact F1 | refine Fr.new ?_ _ | refine Fr.set ?_ (by omega) (by first | omega | (simp only [nxt_new, nxt_set]; omega)) _)) (by first | omega | (simp only [go_sem]; omega)) au (by omega) au ⟨.own (s.nxt + 1 + 1 + 1) 0 x.wins.length, .sl .clip [], rfl, .inr ⟨(s.nxt + 1 + 1 + 1), _, by simp, by omega, (by first | (exact au) | (simp only [List.map_set, List.map_append, List.map_cons, List.map_nil]; exact au))⟩, .inl ⟨.clip, by simp [hse]⟩⟩⟩
                      · have hc := hc13
                        refine rs (k := rg [3, 4, 8, 10, 11, 12, 56, 198] (k := rc (ht := fun hc15 => ?_) (hf := fun hc15 => ?_)))
                        · have hc := hc15
                          refine rs (k := rg [3, 4, 8, 10, 12, 206] (k := rc (ht := fun hc16 => ?_) (hf := fun hc16 => ?_)))
                          · have hc := hc16
                            exfalso
                            have h := of_decide_eq_true hc
                            first | omega | (simp at h; omega)
                          · have hc := hc16
                            refine rk (k := rB (k := ?_))
                            have hxo := ht.ok.tens x hxm
                            have hbw := hxo.bw
                            have hbs := hxo.bs
                            refine rp [4, 8] (k := ?_)
                            exact hJb0 _ _ ⟨rfl, au, ⟨t.frame, t.tens.set k (⟨x.unit, x.fns, x.queue, x.wins, x.slts⟩ : Ten)⟩, few_set (k := k) (x' := (⟨x.unit, x.fns, x.queue, x.wins, x.slts⟩ : Ten)) ht ⟨hxo.unit, hxo.fns, hxo.queue, hxo.wins, hxo.slts, hxo.bw, hxo.bs⟩ (by (try simp only [List.length_set, List.length_append, List.length_cons, List.length_nil]); omega) (by (try simp only [List.length_set, List.length_append, List.length_cons, List.length_nil]); omega) hm ht.ok.frame, odd_done (by repeat (first | exact F1 | refine Fr.new ?_ _ | refine Fr.set ?_ (by omega) (by first | omega | (simp only [nxt_new, nxt_set]; omega)) _)) (by first | omega | (simp only [go_sem]; omega)) au (by omega) au ⟨.own (s.nxt + 1 + 1 + 1) 0 x.wins.length, .sl .clip [], rfl, .inr ⟨(s.nxt + 1 + 1 + 1), _, by simp, by omega, (by first | (exact au) | (simp only [List.map_set, List.map_append, List.map_cons, List.map_nil]; exact au))⟩, .inl ⟨.clip, by simp [hse]⟩⟩⟩
                        · have hc := hc15
                          refine rs (k := rg [3, 4, 8, 10, 11, 56, 215] (k := rc (ht := fun hc17 => ?_) (hf := fun hc17 => ?_)))
                          · have hc := hc17
                            refine Run.drawCut 6 [] Try.mixed (by kernel_rfl) (by kernel_rfl) ?_
                            refine DetC.all au ?_
                            refine RunO.appendOwn au au au Try.td22 (by rw [Try.zp43]; rfl) (fun p hp => by rw [List.mem_singleton.1 hp]; exact ⟨rfl, by rw [Try.cz43]; rfl⟩) (by rw [Try.by43]; decide) (by rw [Try.by43]; simp; omega) (v := .own s1.nxt 0 (t.tens.length + 1)) (s' := (s1.set (s.nxt + 1 + 1) none).new (.row 43 ((t.tens.map Ten.pv).set k (.agg [.int .i64 x.unit, .int .u32 x.fns, .int .i64 x.queue, .own (s.nxt + 1 + 1 + 1) 0 x.wins.length, .sl .clip []]) ++ [.agg [.int .i64 x.unit, .int .u32 x.fns, .int .i64 x.queue, .own (s.nxt + 1 + 1 + 1) 0 x.wins.length, .sl .clip []]]))) (by unfold aAppendOwn; rw [bA]; simp only [ne_eq, List.cons_ne_nil, not_false_eq_true, List.length_set, List.length_map, Nat.le_refl, and_self, if_true, List.length_cons, List.length_nil, Nat.zero_add]; rw [List.take_of_length_le (by simp)]) ?_
                            refine rh [4, 8] (k := rB (k := ?_))
                            have hxo := ht.ok.tens x hxm
                            have hbw := hxo.bw
                            have hbs := hxo.bs
                            refine rp [4, 8] (k := ?_)
                            exact hJb0 _ _ ⟨rfl, au, ⟨t.frame, t.tens.set k (⟨x.unit, x.fns, x.queue, x.wins, x.slts⟩ : Ten) ++ [(⟨x.unit, x.fns, x.queue, x.wins, x.slts⟩ : Ten)]⟩, few_app (t := ⟨t.frame, t.tens.set k (⟨x.unit, x.fns, x.queue, x.wins, x.slts⟩ : Ten)⟩) (x := (⟨x.unit, x.fns, x.queue, x.wins, x.slts⟩ : Ten)) (few_set (k := k) (x' := (⟨x.unit, x.fns, x.queue, x.wins, x.slts⟩ : Ten)) ht ⟨hxo.unit, hxo.fns, hxo.queue, hxo.wins, hxo.slts, hxo.bw, hxo.bs⟩ (by (try simp only [List.length_set, List.length_append, List.length_cons, List.length_nil]); omega) (by (try simp only [List.length_set, List.length_append, List.length_cons, List.length_nil]); omega) hm ht.ok.frame) ⟨hxo.unit, hxo.fns, hxo.queue, hxo.wins, hxo.slts, hxo.bw, hxo.bs⟩ (by (try simp only [List.length_set, List.length_append, List.length_cons, List.length_nil]); omega) (by (try simp only [List.length_set, List.length_append, List.length_cons, List.length_nil]); omega) (by (try simp only [List.length_set, List.length_append, List.length_cons, List.length_nil]); omega) hm, odd_app (by repeat (first | exact F1 | refine Fr.new ?_ _ | refine Fr.set ?_ (by omega) (by first | omega | (simp only [nxt_new, nxt_set]; omega)) _)) (by first | omega | (simp only [go_sem]; omega)) au (by omega) au ⟨.own (s.nxt + 1 + 1 + 1) 0 x.wins.length, .sl .clip [], rfl, .inr ⟨(s.nxt + 1 + 1 + 1), _, by simp, by omega, (by first | (exact au) | (simp only [List.map_set, List.map_append, List.map_cons, List.map_nil]; exact au))⟩, .inl ⟨.clip, by simp [hse]⟩⟩⟩
                          · have hc := hc17
                            refine rs (k := rg [3, 4, 8, 10, 11, 225] (k := rc (ht := fun hc18 => ?_) (hf := fun hc18 => ?_)))
                            · have hc := hc18
                              refine rg [4, 8] (k := rB (k := ?_))
                              have hxo := ht.ok.tens x hxm
                              have hbw := hxo.bw
                              have hbs := hxo.bs
                              refine rp [4, 8] (k := ?_)
                              exact hJb0 _ _ ⟨rfl, au, ⟨t.frame, t.tens.set k (⟨x.unit, x.fns, x.queue, x.wins, []⟩ : Ten)⟩, few_set (k := k) (x' := (⟨x.unit, x.fns, x.queue, x.wins, []⟩ : Ten)) ht ⟨hxo.unit, hxo.fns, hxo.queue, hxo.wins, fun a ha => (by cases ha), hxo.bw, by simp⟩ (by (try simp only [List.length_set, List.length_append, List.length_cons, List.length_nil]); omega) (by (try simp only [List.length_set, List.length_append, List.length_cons, List.length_nil]); omega) hm ht.ok.frame, odd_done (by repeat (first | exact F1 | refine Fr.new ?_ _ | refine Fr.set ?_ (by omega) (by first | omega | (simp only [nxt_new, nxt_set]; omega)) _)) (by first | omega | (simp only [go_sem]; omega)) au (by omega) au ⟨.own (s.nxt + 1 + 1 + 1) 0 x.wins.length, .sl .nil [], rfl, .inr ⟨(s.nxt + 1 + 1 + 1), _, by simp, by omega, (by first | (exact au) | (simp only [List.map_set, List.map_append, List.map_cons, List.map_nil]; exact au))⟩, .inl ⟨.nil, rfl⟩⟩⟩
                            · have hc := hc18
                              refine rs (k := rg [3, 4, 8, 10, 11, 63] (k := rc (ht := fun hc19 => ?_) (hf := fun hc19 => ?_)))
                              · have hc := hc19
                                have hwl2 : wi < x.wins.length := by have := of_decide_eq_true hc; omega
                                have hwi1 : ((wi : Int) < (x.wins.length : Int)) = True := eq_true (by omega)
                                obtain ⟨w, hwe⟩ : ∃ z_, x.wins[wi]'hwl2 = z_ := ⟨_, rfl⟩
                                have hxw : (x.wins.map Win.pv)[wi]? = some (.agg [.int .i64 (w).space, .int .i64 (w).virt, .int .i64 (w).phys, .int .i64 (w).cnt]) := by rw [map_get hwl2, hwe]; rfl
                                have hb7 := ibits_and_le n 7 (by decide)
                                obtain ⟨g7, hg7⟩ : ∃ y, ibits .and .i64 n 7 = y := ⟨_, rfl⟩
                                have hb7 : 0 ≤ g7 ∧ g7 ≤ 7 := hg7 ▸ hb7
                                have H := aj hwi1 (aj hxw (aj hg7 H))
                                refine rg [4, 8] (k := rB (k := ?_))
                                have hxo := ht.ok.tens x hxm
                                have hbw := hxo.bw
                                have hbs := hxo.bs
                                have hwo : w.ok := hxo.wins w (by rw [← hwe]; exact List.getElem_mem _)
                                refine rp [4, 8] (k := ?_)
                                exact hJb0 _ _ ⟨rfl, au, ⟨t.frame, t.tens.set k (⟨x.unit, x.fns, x.queue, x.wins.set wi ⟨g7, w.virt, w.phys, w.cnt⟩, x.slts⟩ : Ten)⟩, few_set (k := k) (x' := (⟨x.unit, x.fns, x.queue, x.wins.set wi ⟨g7, w.virt, w.phys, w.cnt⟩, x.slts⟩ : Ten)) ht ⟨hxo.unit, hxo.fns, hxo.queue, fun v hv => (List.mem_or_eq_of_mem_set hv).elim (hxo.wins v) (fun h => by rw [h]; exact ⟨(show I64 g7 from ⟨by omega, by omega⟩), hwo.virt, hwo.phys, hwo.cnt⟩), hxo.slts, by rw [List.length_set]; exact hbw, hxo.bs⟩ (by (try simp only [List.length_set, List.length_append, List.length_cons, List.length_nil]); omega) (by (try simp only [List.length_set, List.length_append, List.length_cons, List.length_nil]); omega) hm ht.ok.frame, odd_done (by repeat (first | exact F1 | refine Fr.new ?_ _ | refine Fr.set ?_ (by omega) (by first | omega | (simp only [nxt_new, nxt_set]; omega)) _)) (by first | omega | (simp only [go_sem]; omega)) au (by omega) au ⟨.own (s.nxt + 1 + 1 + 1) 0 x.wins.length, .sl .clip [], rfl, .inr ⟨(s.nxt + 1 + 1 + 1), _, by simp, by omega, (by first | (exact au) | (simp only [List.map_set, List.map_append, List.map_cons, List.map_nil]; exact au))⟩, .inl ⟨.clip, by simp [hse]⟩⟩⟩
                              · have hc := hc19
                                refine rk (k := rB (k := ?_))
                                have hxo := ht.ok.tens x hxm
                                have hbw := hxo.bw
                                have hbs := hxo.bs
                                refine rp [4, 8] (k := ?_)
                                exact hJb0 _ _ ⟨rfl, au, ⟨t.frame, t.tens.set k (⟨x.unit, x.fns, x.queue, x.wins, x.slts⟩ : Ten)⟩, few_set (k := k) (x' := (⟨x.unit, x.fns, x.queue, x.wins, x.slts⟩ : Ten)) ht ⟨hxo.unit, hxo.fns, hxo.queue, hxo.wins, hxo.slts, hxo.bw, hxo.bs⟩ (by (try simp only [List.length_set, List.length_append, List.length_cons, List.length_nil]); omega) (by (try simp only [List.length_set, List.length_append, List.length_cons, List.length_nil]); omega) hm ht.ok.frame, odd_done (by repeat (first | exact F1 | refine Fr.new ?_ _ | refine Fr.set ?_ (by omega) (by first | omega | (simp only [nxt_new, nxt_set]; omega)) _)) (by first | omega | (simp only [go_sem]; omega)) au (by omega) au ⟨.own (s.nxt + 1 + 1 + 1) 0 x.wins.length, .sl .clip [], rfl, .inr ⟨(s.nxt + 1 + 1 + 1), _, by simp, by omega, (by first | (exact au) | (simp only [List.map_set, List.map_append, List.map_cons, List.map_nil]; exact au))⟩, .inl ⟨.clip, by simp [hse]⟩⟩⟩
set_option maxRecDepth 100000 in
theorem odd_ns {t : Tab} {m : Nat} (hm : m ≤ 1000) (ht : t.few m) {what at_ n : Int} (hwI : I64 what) (haI : I64 at_) (hnI : I64 n) {k : Nat} (hkw : withinI at_ 0 (t.tens.length - 1) = k) (hkl : k < t.tens.length) {x : Ten} (hxe : t.tens[k] = x) (hwe : x.wins = []) (hse : x.slts ≠ []) {s : St} : ACalls Try.prog 11 [t.pv, .int .i64 what, .int .i64 at_, .int .i64 n] s (fun r s' => ∃ t' : Tab, r = t'.pv ∧ t'.few (m + 1) ∧ s' = s) := by
  refine go Try.func11 (k := fun hwf H => ?_)
  have hnt := ht.nt
  have hxm : x ∈ t.tens := by rw [← hxe]; exact List.getElem_mem _
  have hnw := ht.nw x hxm
  have hns := ht.ns x hxm
  have hte : t.tens ≠ [] := fun h => by rw [h] at hkl; simp at hkl
  have hxx : (t.tens.map Ten.pv)[k]? = some (.agg [.int .i64 (x).unit, .int .u32 (x).fns, .int .i64 (x).queue, .sl .unk ((x).wins.map Win.pv), .sl .unk ((x).slts.map Slt.pv)]) := by rw [map_get hkl, hxe]; rfl
  have hgs : ∀ X, ((t.tens.map Ten.pv).set k X)[k]? = some X := fun X => by rw [List.getElem?_set]; simp [hkl]
  have hwl : IntKind.i64.wrap ((t.tens.length : Int) - 1) = (t.tens.length : Int) - 1 := wrap_i64 (by omega)
  have htl0 : ((t.tens.length : Int) = 0) = False := eq_false (by omega)
  have hk2 : ((k : Int) < (t.tens.length : Int)) = True := eq_true (by omega)
  have H := aj hgs (aj hwl (aj hkw (aj hk2 (aj htl0 (aj hwe H)))))
  refine rs (k := rg [1, 2, 3, 4, 8] (k := rs (k := rr (k := rO (k := ro (pre := [_, _]) (k := ?_))))))
  refine RunO.appendFirst au au au Try.td22 (by rw [Try.zp43]; rfl) (isEls_none _ _) (isEls_map (f := Ten.pv) (fun a => ⟨rfl, by rw [Try.cz43]; rfl⟩) _) (by rw [Try.by43]; decide) (by rw [Try.by43]; simp; omega) (by simp only [aAppendFirst, List.map_eq_nil_iff, ne_eq, hte, not_false_eq_true, if_true, List.length_nil, Nat.zero_add, List.length_map, List.nil_append, go_sem]; rfl) ?_
  refine rh [1, 2, 3, 4, 8] (k := rs (k := rs (k := rg [1, 2, 3, 4, 8, 21] (k := rc (ht := fun hc0 => ?_) (hf := fun hc0 => ?_)))))
  · cases hc0
  · have hc := hc0
    refine rk (k := rs (k := rr (k := ro (pre := [_, _, _, _, _]) (k := rC (h := within_ (lo := 0) (hi := (t.tens.length : Int) - 1) (by decide) (by omega) (by omega)) (k := rh [1, 2, 3, 4, 8, 9] (k := rs (k := rg [1, 2, 3, 4, 8, 10] (k := rs (k := ?_)))))))))
    have H := aj hxx H
    refine rr (k := ro (pre := [_]) (k := rO (k := ro (pre := [_, _, _, _]) (k := ?_))))
    refine RunO.append au au au Try.td40 (by rw [Try.zp45]; rfl) (isEls_none _ _) (isEls_none _ _) (by rw [Try.by45]; decide) (by simp) (v := .sl .clip []) (by unfold aAppend; rw [if_pos rfl]) ?_
    refine rh [1, 2, 3, 4, 8, 10] (k := rs (k := rr (k := ro (pre := [_]) (k := rO (k := ro (pre := [_, _, _, _]) (k := ?_))))))
    refine RunO.appendFirst au au au Try.td41 (by rw [Try.zp48]; rfl) (isEls_none _ _) (isEls_map (f := Slt.pv) (fun a => ⟨rfl, by rw [Try.cz48]; rfl⟩) _) (by rw [Try.by48]; decide) (by rw [Try.by48]; simp; omega) (by simp only [aAppendFirst, List.map_eq_nil_iff, ne_eq, hse, not_false_eq_true, if_true, List.length_nil, Nat.zero_add, List.length_map, List.nil_append, go_sem]; rfl) ?_
    refine rh [1, 2, 3, 4, 8, 10] (k := rs (k := ?_))
    refine Run.abs (fun s1 => Fr s s1 ∧ s1.nxt = s.nxt + 1 + 1 + 1 + 1 ∧ s1.blk s.nxt = some (.row 24 [.agg [.int .i64 t.frame, .own (s.nxt + 1 + 1) 0 t.tens.length]]) ∧ s1.blk (s.nxt + 1) = some (.row 24 [.agg [.int .i64 0, .sl .nil []]]) ∧ s1.blk (s.nxt + 1 + 1) = some (.row 43 ((t.tens.map Ten.pv).set k (.agg [.int .i64 x.unit, .int .u32 x.fns, .int .i64 x.queue, .sl .clip [], .own (s.nxt + 1 + 1 + 1) 0 x.slts.length]))) ∧ s1.blk (s.nxt + 1 + 1 + 1) = some (.row 48 (x.slts.map Slt.pv))) ⟨by repeat (first | exact Fr.refl hwf | refine Fr.new ?_ _ | refine Fr.set ?_ (by omega) (by simp only [nxt_new, nxt_set]; omega) _), by simp only [go_sem], by simp only [go_sem, ↓reduceIte, Nat.reduceEqDiff, Nat.reduceAdd], by simp only [go_sem, ↓reduceIte, Nat.reduceEqDiff, Nat.reduceAdd], by simp only [go_sem, ↓reduceIte, Nat.reduceEqDiff, Nat.reduceAdd], by simp only [go_sem, ↓reduceIte, Nat.reduceEqDiff, Nat.reduceAdd]⟩ ?_
    rintro s1 ⟨F1, hn1, b4, b8, bA, bC⟩
    have hwi0 := withinI_bound (n := n) (lo := 0) (hi := 5) (by decide)
    have hsi0 := withinI_bound (n := n) (lo := 0) (hi := 2) (by decide)
    obtain ⟨wi, hwi⟩ : ∃ y : Nat, withinI n 0 5 = y := ⟨_, (Int.toNat_of_nonneg hwi0.1).symm⟩
    obtain ⟨si, hsi⟩ : ∃ y : Nat, withinI n 0 2 = y := ⟨_, (Int.toNat_of_nonneg hsi0.1).symm⟩
    have z0 : (s.nxt = s1.nxt) = False := eq_false (by omega)
    have z1 : (s.nxt + 1 = s1.nxt) = False := eq_false (by omega)
    have z2 : (s.nxt + 1 + 1 = s1.nxt) = False := eq_false (by omega)
    have z3 : (s.nxt + 1 + 1 + 1 = s1.nxt) = False := eq_false (by omega)
    have y0 : (s1.nxt = s.nxt) = False := eq_false (by omega)
    have y1 : (s1.nxt = s.nxt + 1) = False := eq_false (by omega)
    have y2 : (s1.nxt = s.nxt + 1 + 1) = False := eq_false (by omega)
    have y3 : (s1.nxt = s.nxt + 1 + 1 + 1) = False := eq_false (by omega)
    have H := aj b4 (aj b8 (aj bA (aj bC (aj hwi (aj hsi (aj z0 (aj z1 (aj z2 (aj z3 (aj y0 (aj y1 (aj y2 (aj y3 H)))))))))))))
    refine rr (k := ro (pre := [_]) (k := rC (h := within_ (lo := 0) (hi := 5) (by decide) (by decide) (by decide)) (k := ro (pre := [_]) (k := rC (h := within_ (lo := 0) (hi := 2) (by decide) (by decide) (by decide)) (k := rh [1, 2, 3, 4, 8, 10, 11, 12] (k := rs (k := rs (k := rr (k := ro (pre := [_]) (k := rC (h := within_ (lo := 0) (hi := 13) (by decide) (by decide) (by decide)) (k := ?_)))))))))))
    refine rl [2, 3, 4, 8, 10, 11, 12, 56] (k := ?_)
    refine Run.join (fun e s' => e = [(4, .ptr s.nxt 0 0), (8, .ptr (s.nxt + 1) 0 0)] ∧ s'.blk (s.nxt + 1) = some (.row 24 [.agg [.int .i64 0, .sl .nil []]]) ∧ ∃ t' : Tab, t'.few (m + 1) ∧ OddR s s' t') ?_ ?_
    · rintro e s2 ⟨rfl, r0, t', hfew, hO⟩
      obtain ⟨A', els, r1, r2, r3, r4, r5⟩ := hO.row
      have H := aj r0 (aj r1 H)
      refine rs (k := rg [8] (k := rR (k := ?_)))
      exact Ret.pureF (r' := t'.pv) 7 (by simp only [Try.f11, go_sem, ↓reduceIte, r0, r1] <;> rfl) ((hO.set _).frz (by simp only [go_sem, ↓reduceIte]; exact r1)) (blw_tab _ _) hwf (hO.set _).fr.blk ⟨t', rfl, hfew, rfl⟩
    intro hJb0
    refine rb (k := rs (k := ?_))
    obtain ⟨wv, hwv⟩ : ∃ y, withinI what 0 13 = y := ⟨_, rfl⟩
    rw [hwv]
    refine rg [2, 3, 4, 8, 10, 11, 12, 56, 73] (k := rc (ht := fun hc1 => ?_) (hf := fun hc1 => ?_))
    · have hc := hc1
      refine rg [4, 8] (k := rB (k := ?_))
      have hxo := ht.ok.tens x hxm
      have hbw := hxo.bw
      have hbs := hxo.bs
      refine rp [4, 8] (k := ?_)
      exact hJb0 _ _ ⟨rfl, au, ⟨n, t.tens.set k (⟨x.unit, x.fns, x.queue, x.wins, x.slts⟩ : Ten)⟩, few_set (k := k) (x' := (⟨x.unit, x.fns, x.queue, x.wins, x.slts⟩ : Ten)) ht ⟨hxo.unit, hxo.fns, hxo.queue, hxo.wins, hxo.slts, hxo.bw, hxo.bs⟩ (by (try simp only [List.length_set, List.length_append, List.length_cons, List.length_nil]); omega) (by (try simp only [List.length_set, List.length_append, List.length_cons, List.length_nil]); omega) hm hnI, odd_done (by repeat (first | exact F1 | refine Fr.new ?_ _ | refine Fr.set ?_ (by omega) (by first | omega | (simp only [nxt_new, nxt_set]; omega)) _)) (by first | omega | (simp only [go_sem]; omega)) au (by omega) au ⟨.sl .clip [], .own (s.nxt + 1 + 1 + 1) 0 x.slts.length, rfl, .inl ⟨.clip, by simp [hwe]⟩, .inr ⟨(s.nxt + 1 + 1 + 1), _, by simp, by omega, (by first | (exact au) | (simp only [List.map_set, List.map_append, List.map_cons, List.map_nil]; exact au))⟩⟩⟩
    · have hc := hc1
      refine rs (k := rg [2, 3, 4, 8, 10, 11, 12, 56, 77] (k := rc (ht := fun hc2 => ?_) (hf := fun hc2 => ?_)))
      · have hc := hc2
        refine rg [4, 8] (k := rB (k := ?_))
        have hxo := ht.ok.tens x hxm
        have hbw := hxo.bw
        have hbs := hxo.bs
        refine rp [4, 8] (k := ?_)
        exact hJb0 _ _ ⟨rfl, au, ⟨t.frame, t.tens.set k (⟨n, x.fns, x.queue, x.wins, x.slts⟩ : Ten)⟩, few_set (k := k) (x' := (⟨n, x.fns, x.queue, x.wins, x.slts⟩ : Ten)) ht ⟨hnI, hxo.fns, hxo.queue, hxo.wins, hxo.slts, hxo.bw, hxo.bs⟩ (by (try simp only [List.length_set, List.length_append, List.length_cons, List.length_nil]); omega) (by (try simp only [List.length_set, List.length_append, List.length_cons, List.length_nil]); omega) hm ht.ok.frame, odd_done (by repeat (first | exact F1 | refine Fr.new ?_ _ | refine Fr.set ?_ (by omega) (by first | omega | (simp only [nxt_new, nxt_set]; omega)) _)) (by first | omega | (simp only [go_sem]; omega)) au (by omega) au ⟨.sl .clip [], .own (s.nxt + 1 + 1 + 1) 0 x.slts.length, rfl, .inl ⟨.clip, by simp [hwe]⟩, .inr ⟨(s.nxt + 1 + 1 + 1), _, by simp, by omega, (by first | (exact au) | (simp only [List.map_set, List.map_append, List.map_cons, List.map_nil]; exact au))⟩⟩⟩
      · have hc := hc2
        refine rs (k := rg [2, 3, 4, 8, 10, 11, 12, 56, 83] (k := rc (ht := fun hc3 => ?_) (hf := fun hc3 => ?_)))
        · have hc := hc3
          refine rg [4, 8] (k := rB (k := ?_))
          have hxo := ht.ok.tens x hxm
          have hbw := hxo.bw
          have hbs := hxo.bs
          refine rp [4, 8] (k := ?_)
          exact hJb0 _ _ ⟨rfl, au, ⟨t.frame, t.tens.set k (⟨x.unit, x.fns, n, x.wins, x.slts⟩ : Ten)⟩, few_set (k := k) (x' := (⟨x.unit, x.fns, n, x.wins, x.slts⟩ : Ten)) ht ⟨hxo.unit, hxo.fns, hnI, hxo.wins, hxo.slts, hxo.bw, hxo.bs⟩ (by (try simp only [List.length_set, List.length_append, List.length_cons, List.length_nil]); omega) (by (try simp only [List.length_set, List.length_append, List.length_cons, List.length_nil]); omega) hm ht.ok.frame, odd_done (by repeat (first | exact F1 | refine Fr.new ?_ _ | refine Fr.set ?_ (by omega) (by first | omega | (simp only [nxt_new, nxt_set]; omega)) _)) (by first | omega | (simp only [go_sem]; omega)) au (by omega) au ⟨.sl .clip [], .own (s.nxt + 1 + 1 + 1) 0 x.slts.length, rfl, .inl ⟨.clip, by simp [hwe]⟩, .inr ⟨(s.nxt + 1 + 1 + 1), _, by simp, by omega, (by first | (exact au) | (simp only [List.map_set, List.map_append, List.map_cons, List.map_nil]; exact au))⟩⟩⟩
        · have hc := hc3
          refine rs (k := rg [2, 3, 4, 8, 10, 11, 12, 56, 89] (k := rc (ht := fun hc4 => ?_) (hf := fun hc4 => ?_)))
          · have hc := hc4
            refine rg [4, 8] (k := rB (k := ?_))
            have hxo := ht.ok.tens x hxm
            have hbw := hxo.bw
            have hbs := hxo.bs
            refine rp [4, 8] (k := ?_)
            exact hJb0 _ _ ⟨rfl, au, ⟨t.frame, t.tens.set k (⟨x.unit, IntKind.u32.wrap n, x.queue, x.wins, x.slts⟩ : Ten)⟩, few_set (k := k) (x' := (⟨x.unit, IntKind.u32.wrap n, x.queue, x.wins, x.slts⟩ : Ten)) ht ⟨hxo.unit, U32_wrap n, hxo.queue, hxo.wins, hxo.slts, hxo.bw, hxo.bs⟩ (by (try simp only [List.length_set, List.length_append, List.length_cons, List.length_nil]); omega) (by (try simp only [List.length_set, List.length_append, List.length_cons, List.length_nil]); omega) hm ht.ok.frame, odd_done (by repeat (first | exact F1 | refine Fr.new ?_ _ | refine Fr.set ?_ (by omega) (by first | omega | (simp only [nxt_new, nxt_set]; omega)) _)) (by first | omega | (simp only [go_sem]; omega)) au (by omega) au ⟨.sl .clip [], .own (s.nxt + 1 + 1 + 1) 0 x.slts.length, rfl, .inl ⟨.clip, by simp [hwe]⟩, .inr ⟨(s.nxt + 1 + 1 + 1), _, by simp, by omega, (by first | (exact au) | (simp only [List.map_set, List.map_append, List.map_cons, List.map_nil]; exact au))⟩⟩⟩
          · have hc := hc4
            refine rs (k := rg [2, 3, 4, 8, 10, 11, 12, 56, 96] (k := rc (ht := fun hc5 => ?_) (hf := fun hc5 => ?_)))
            · have hc := hc5
              refine rr (k := ro (pre := [_, _, _, _, _, _, _]) (k := rO (k := ?_)))
              refine RunO.appendOwn au au au Try.td41 (by rw [Try.zp48]; rfl) (isEls_map (f := Slt.pv) (fun a => ⟨rfl, by rw [Try.cz48]; rfl⟩) [⟨n, 72⟩]) (by rw [Try.by48]; decide) (by rw [Try.by48]; simp; omega) (v := .own s1.nxt 0 (x.slts.length + 1)) (s' := (s1.set (s.nxt + 1 + 1 + 1) none).new (.row 48 (x.slts.map Slt.pv ++ [.agg [.int .i64 n, .int .i64 72]]))) (by unfold aAppendOwn; rw [bC]; simp only [ne_eq, List.cons_ne_nil, not_false_eq_true, List.length_map, Nat.le_refl, and_self, if_true, List.length_cons, List.length_nil, Nat.zero_add]; rw [List.take_of_length_le (by rw [List.length_map]; exact Nat.le_refl _)]; rfl) ?_
              refine rh [4, 8] (k := rB (k := ?_))
              have hxo := ht.ok.tens x hxm
              have hbw := hxo.bw
              have hbs := hxo.bs
              refine rp [4, 8] (k := ?_)
              exact hJb0 _ _ ⟨rfl, au, ⟨t.frame, t.tens.set k (⟨x.unit, x.fns, x.queue, x.wins, x.slts ++ [⟨n, 72⟩]⟩ : Ten)⟩, few_set (k := k) (x' := (⟨x.unit, x.fns, x.queue, x.wins, x.slts ++ [⟨n, 72⟩]⟩ : Ten)) ht ⟨hxo.unit, hxo.fns, hxo.queue, hxo.wins, fun a ha => (List.mem_append.1 ha).elim (hxo.slts a) (fun h => by rw [List.mem_singleton.1 h]; exact ⟨hnI, (show I64 72 by decide)⟩), hxo.bw, by (try simp only [List.length_set, List.length_append, List.length_cons, List.length_nil]); omega⟩ (by (try simp only [List.length_set, List.length_append, List.length_cons, List.length_nil]); omega) (by (try simp only [List.length_set, List.length_append, List.length_cons, List.length_nil]); omega) hm ht.ok.frame, odd_done (by repeat (first | exact F1 | refine Fr.new ?_ _ | refine Fr.set ?_ (by omega) (by first | omega | (simp only [nxt_new, nxt_set]; omega)) _)) (by first | omega | (simp only [go_sem]; omega)) au (by omega) au ⟨.sl .clip [], .own s1.nxt 0 (x.slts.length + 1), rfl, .inl ⟨.clip, by simp [hwe]⟩, .inr ⟨s1.nxt, _, by simp, by omega, (by first | (exact au) | (simp only [List.map_set, List.map_append, List.map_cons, List.map_nil]; exact au))⟩⟩⟩
            · have hc := hc5
              refine rs (k := rg [2, 3, 4, 8, 10, 11, 12, 56, 109] (k := rc (ht := fun hc6 => ?_) (hf := fun hc6 => ?_)))
              · have hc := hc6
                have hb0 := ibits_and_le n 3 (by decide)
                have hb1 := ibits_and_le at_ 1023 (by decide)
                have hb2 := ibits_and_le n 511 (by decide)
                have hb3 := ibits_and_le at_ 31 (by decide)
                obtain ⟨g0, hg0⟩ : ∃ y, ibits .and .i64 n 3 = y := ⟨_, rfl⟩
                obtain ⟨g1, hg1⟩ : ∃ y, ibits .and .i64 at_ 1023 = y := ⟨_, rfl⟩
                obtain ⟨g2, hg2⟩ : ∃ y, ibits .and .i64 n 511 = y := ⟨_, rfl⟩
                obtain ⟨g4, hg4⟩ : ∃ y, ibits .and .i64 at_ 31 = y := ⟨_, rfl⟩
                have hb0 : 0 ≤ g0 ∧ g0 ≤ 3 := hg0 ▸ hb0
                have hb1 : 0 ≤ g1 ∧ g1 ≤ 1023 := hg1 ▸ hb1
                have hb2 : 0 ≤ g2 ∧ g2 ≤ 511 := hg2 ▸ hb2
                have hb3 : 0 ≤ g4 ∧ g4 ≤ 31 := hg4 ▸ hb3
                have hg3 : IntKind.i64.wrap (1 + g4) = 1 + g4 := wrap_i64 (by omega)
                have H := aj hg0 (aj hg1 (aj hg2 (aj hg4 (aj hg3 H))))
                refine rr (k := ro (pre := [_, _, _, _, _, _, _, _, _, _, _, _, _, _, _]) (k := rO (k := ?_)))
                refine RunO.appendFirst au au au Try.td40 (by rw [Try.zp45]; rfl) (isEls_none _ _) (isEls_map (f := Win.pv) (fun a => ⟨rfl, by rw [Try.cz45]; rfl⟩) [⟨g0, g1, g2, 1 + g4⟩]) (by rw [Try.by45]; decide) (by rw [Try.by45]; simp) (v := .own s1.nxt 0 1) (s' := s1.new (.row 45 [.agg [.int .i64 g0, .int .i64 g1, .int .i64 g2, .int .i64 (1 + g4)]])) (by simp [aAppendFirst, Slt.pv, Win.pv]) ?_
                refine rh [4, 8] (k := rB (k := ?_))
                have hxo := ht.ok.tens x hxm
                have hbw := hxo.bw
                have hbs := hxo.bs
                refine rp [4, 8] (k := ?_)
                exact hJb0 _ _ ⟨rfl, au, ⟨t.frame, t.tens.set k (⟨x.unit, x.fns, x.queue, x.wins ++ [⟨g0, g1, g2, 1 + g4⟩], x.slts⟩ : Ten)⟩, few_set (k := k) (x' := (⟨x.unit, x.fns, x.queue, x.wins ++ [⟨g0, g1, g2, 1 + g4⟩], x.slts⟩ : Ten)) ht ⟨hxo.unit, hxo.fns, hxo.queue, fun a ha => (List.mem_append.1 ha).elim (hxo.wins a) (fun h => by rw [List.mem_singleton.1 h]; exact ⟨⟨by (try simp only []); omega, by (try simp only []); omega⟩, ⟨by (try simp only []); omega, by (try simp only []); omega⟩, ⟨by (try simp only []); omega, by (try simp only []); omega⟩, ⟨by (try simp only []); omega, by (try simp only []); omega⟩⟩), hxo.slts, by (try simp only [List.length_set, List.length_append, List.length_cons, List.length_nil]); omega, hxo.bs⟩ (by (try simp only [List.length_set, List.length_append, List.length_cons, List.length_nil]); omega) (by (try simp only [List.length_set, List.length_append, List.length_cons, List.length_nil]); omega) hm ht.ok.frame, odd_done (by repeat (first | exact F1 | refine Fr.new ?_ _ | refine Fr.set ?_ (by omega) (by first | omega | (simp only [nxt_new, nxt_set]; omega)) _)) (by first | omega | (simp only [go_sem]; omega)) au (by omega) au ⟨.own s1.nxt 0 1, .own (s.nxt + 1 + 1 + 1) 0 x.slts.length, rfl, .inr ⟨s1.nxt, _, by simp [hwe], by omega, (by first | (exact au) | (simp only [List.map_set, List.map_append, List.map_cons, List.map_nil]; exact au))⟩, .inr ⟨(s.nxt + 1 + 1 + 1), _, by simp, by omega, (by first | (exact au) | (simp only [List.map_set, List.map_append, List.map_cons, List.map_nil]; exact au))⟩⟩⟩
              · have hc := hc6
                refine rs (k := rg [3, 4, 8, 10, 11, 12, 56, 130] (k := rc (ht := fun hc7 => ?_) (hf := fun hc7 => ?_)))
                · have hc := hc7
                  refine rs (k := rg [3, 4, 8, 10, 11, 138] (k := rc (ht := fun hc8 => ?_) (hf := fun hc8 => ?_)))
                  · have hc := hc8
                    exfalso
                    have h := of_decide_eq_true hc
                    first | omega | (simp at h; omega)
                  · have hc := hc8
                    refine rk (k := rB (k := ?_))
                    have hxo := ht.ok.tens x hxm
                    have hbw := hxo.bw
                    have hbs := hxo.bs
                    refine rp [4, 8] (k := ?_)
                    exact hJb0 _ _ ⟨rfl, au, ⟨t.frame, t.tens.set k (⟨x.unit, x.fns, x.queue, x.wins, x.slts⟩ : Ten)⟩, few_set (k := k) (x' := (⟨x.unit, x.fns, x.queue, x.wins, x.slts⟩ : Ten)) ht ⟨hxo.unit, hxo.fns, hxo.queue, hxo.wins, hxo.slts, hxo.bw, hxo.bs⟩ (by (try simp only [List.length_set, List.length_append, List.length_cons, List.length_nil]); omega) (by (try simp only [List.length_set, List.length_append, List.length_cons, List.length_nil]); omega) hm ht.ok.frame, odd_done (by repeat (first | exact F1 | refine Fr.new ?_ _ | refine Fr.set ?_ (by omega) (by first | omega | (simp only [nxt_new, nxt_set]; omega)) _)) (by first | omega | (simp only [go_sem]; omega)) au (by omega) au ⟨.sl .clip [], .own (s.nxt + 1 + 1 + 1) 0 x.slts.length, rfl, .inl ⟨.clip, by simp [hwe]⟩, .inr ⟨(s.nxt + 1 + 1 + 1), _, by simp, by omega, (by first | (exact au) | (simp only [List.map_set, List.map_append, List.map_cons, List.map_nil]; exact au))⟩⟩⟩
                · have hc := hc7
                  refine rs (k := rg [3, 4, 8, 10, 11, 12, 56, 147] (k := rc (ht := fun hc9 => ?_) (hf := fun hc9 => ?_)))
                  · have hc := hc9
                    refine rs (k := rg [3, 4, 8, 10, 11, 155] (k := rc (ht := fun hc10 => ?_) (hf := fun hc10 => ?_)))
                    · have hc := hc10
                      exfalso
                      have h := of_decide_eq_true hc
                      first | omega | (simp at h; omega)
                    · have hc := hc10
                      refine rk (k := rB (k := ?_))
                      have hxo := ht.ok.tens x hxm
                      have hbw := hxo.bw
                      have hbs := hxo.bs
                      refine rp [4, 8] (k := ?_)
                      exact hJb0 _ _ ⟨rfl, au, ⟨t.frame, t.tens.set k (⟨x.unit, x.fns, x.queue, x.wins, x.slts⟩ : Ten)⟩, few_set (k := k) (x' := (⟨x.unit, x.fns, x.queue, x.wins, x.slts⟩ : Ten)) ht ⟨hxo.unit, hxo.fns, hxo.queue, hxo.wins, hxo.slts, hxo.bw, hxo.bs⟩ (by (try simp only [List.length_set, List.length_append, List.length_cons, List.length_nil]); omega) (by (try simp only [List.length_set, List.length_append, List.length_cons, List.length_nil]); omega) hm ht.ok.frame, odd_done (by repeat (first | exact F1 | refine Fr.new ?_ _ | refine Fr.set ?_ (by omega) (by first | omega | (simp only [nxt_new, nxt_set]; omega)) _)) (by first | omega | (simp only [go_sem]; omega)) au (by omega) au ⟨.sl .clip [], .own (s.nxt + 1 + 1 + 1) 0 x.slts.length, rfl, .inl ⟨.clip, by simp [hwe]⟩, .inr ⟨(s.nxt + 1 + 1 + 1), _, by simp, by omega, (by first | (exact au) | (simp only [List.map_set, List.map_append, List.map_cons, List.map_nil]; exact au))⟩⟩⟩
                  · have hc := hc9
                    refine rs (k := rg [3, 4, 8, 10, 11, 12, 56, 164] (k := rc (ht := fun hc11 => ?_) (hf := fun hc11 => ?_)))
                    · have hc := hc11
                      refine rs (k := rg [3, 4, 8, 10, 11, 172] (k := rc (ht := fun hc12 => ?_) (hf := fun hc12 => ?_)))
                      · have hc := hc12
                        exfalso
                        have h := of_decide_eq_true hc
                        first | omega | (simp at h; omega)
                      · have hc := hc12
                        refine rk (k := rB (k := ?_))
                        have hxo := ht.ok.tens x hxm
                        have hbw := hxo.bw
                        have hbs := hxo.bs
                        refine rp [4, 8] (k := ?_)
                        exact hJb0 _ _ ⟨rfl, au, ⟨t.frame, t.tens.set k (⟨x.unit, x.fns, x.queue, x.wins, x.slts⟩ : Ten)⟩, few_set (k := k) (x' := (⟨x.unit, x.fns, x.queue, x.wins, x.slts⟩ : Ten)) ht ⟨hxo.unit, hxo.fns, hxo.queue, hxo.wins, hxo.slts, hxo.bw, hxo.bs⟩ (by (try simp only [List.length_set, List.length_append, List.length_cons, List.length_nil]); omega) (by (try simp only [List.length_set, List.length_append, List.length_cons, List.length_nil]); omega) hm ht.ok.frame, odd_done (by repeat (first | exact F1 | refine Fr.new ?_ _ | refine Fr.set ?_ (by omega) (by first | omega | (simp only [nxt_new, nxt_set]; omega)) _)) (by first | omega | (simp only [go_sem]; omega)) au (by omega) au ⟨.sl .clip [], .own (s.nxt + 1 + 1 + 1) 0 x.slts.length, rfl, .inl ⟨.clip, by simp [hwe]⟩, .inr ⟨(s.nxt + 1 + 1 + 1), _, by simp, by omega, (by first | (exact au) | (simp only [List.map_set, List.map_append, List.map_cons, List.map_nil]; exact au))⟩⟩⟩
                    · have hc := hc11
                      refine rs (k := rg [3, 4, 8, 10, 11, 12, 56, 181] (k := rc (ht := fun hc13 => ?_) (hf := fun hc13 => ?_)))
                      · have hc := hc13
                        refine rs (k := rg [3, 4, 8, 10, 12, 189] (k := rc (ht := fun hc14 => ?_) (hf := fun hc14 => ?_)))
                        · have hc := hc14
                          have hsl2 : si < x.slts.length := by have := of_decide_eq_true hc; omega
                          have hsi1 : ((si : Int) < (x.slts.length : Int)) = True := eq_true (by omega)
                          obtain ⟨a, hae⟩ : ∃ z_, x.slts[si]'hsl2 = z_ := ⟨_, rfl⟩
                          have hxa : (x.slts.map Slt.pv)[si]? = some (.agg [.int .i64 (a).pos, .int .i64 (a).len]) := by rw [map_get hsl2, hae]; rfl
                          have H := aj hsi1 (aj hxa H)
                          refine rg [4, 8] (k := rB (k := ?_))
                          have hxo := ht.ok.tens x hxm
                          have hbw := hxo.bw
                          have hbs := hxo.bs
                          have hao : a.ok := hxo.slts a (by rw [← hae]; exact List.getElem_mem _)
                          refine rp [4, 8] (k := ?_)
                          exact hJb0 _ _ ⟨rfl, au, ⟨t.frame, t.tens.set k (⟨x.unit, x.fns, x.queue, x.wins, x.slts.set si ⟨n, a.len⟩⟩ : Ten)⟩, few_set (k := k) (x' := (⟨x.unit, x.fns, x.queue, x.wins, x.slts.set si ⟨n, a.len⟩⟩ : Ten)) ht ⟨hxo.unit, hxo.fns, hxo.queue, hxo.wins, fun v hv => (List.mem_or_eq_of_mem_set hv).elim (hxo.slts v) (fun h => by rw [h]; exact ⟨hnI, hao.len⟩), hxo.bw, by rw [List.length_set]; exact hbs⟩ (by (try simp only [List.length_set, List.length_append, List.length_cons, List.length_nil]); omega) (by (try simp only [List.length_set, List.length_append, List.length_cons, List.length_nil]); omega) hm ht.ok.frame, odd_done (by repeat (first | exact F1 | refine Fr.new ?_ _ | refine Fr.set ?_ (by omega) (by first | omega | (simp only [nxt_new, nxt_set]; omega)) _)) (by first | omega | (simp only [go_sem]; omega)) au (by omega) au ⟨.sl .clip [], .own (s.nxt + 1 + 1 + 1) 0 x.slts.length, rfl, .inl ⟨.clip, by simp [hwe]⟩, .inr ⟨(s.nxt + 1 + 1 + 1), _, by simp, by omega, (by first | (exact au) | (simp only [List.map_set, List.map_append, List.map_cons, List.map_nil]; exact au))⟩⟩⟩
                        · have hc := hc14
                          refine rk (k := rB (k := ?_))
                          have hxo := ht.ok.tens x hxm
                          have hbw := hxo.bw
                          have hbs := hxo.bs
                          refine rp [4, 8] (k := ?_)
                          exact hJb0 _ _ ⟨rfl, au, ⟨t.frame, t.tens.set k (⟨x.unit, x.fns, x.queue, x.wins, x.slts⟩ : Ten)⟩, few_set (k := k) (x' := (⟨x.unit, x.fns, x.queue, x.wins, x.slts⟩ : Ten)) ht ⟨hxo.unit, hxo.fns, hxo.queue, hxo.wins, hxo.slts, hxo.bw, hxo.bs⟩ (by (try simp only [List.length_set, List.length_append, List.length_cons, List.length_nil]); omega) (by (try simp only [List.length_set, List.length_append, List.length_cons, List.length_nil]); omega) hm ht.ok.frame, odd_done (by repeat (first | exact F1 | refine Fr.new ?_ _ | refine Fr.set ?_ (by omega) (by first | omega | (simp only [nxt_new, nxt_set]; omega)) _)) (by first | omega | (simp only [go_sem]; omega)) au (by omega) au ⟨.sl .clip [], .own (s.nxt + 1 + 1 + 1) 0 x.slts.length, rfl, .inl ⟨.clip, by simp [hwe]⟩, .inr ⟨(s.nxt + 1 + 1 + 1), _, by simp, by omega, (by first | (exact au) | (simp only [List.map_set, List.map_append, List.map_cons, List.map_nil]; exact au))⟩⟩⟩
                      · have hc := hc13
                        refine rs (k := rg [3, 4, 8, 10, 11, 12, 56, 198] (k := rc (ht := fun hc15 => ?_) (hf := fun hc15 => ?_)))
                        · have hc := hc15
                          refine rs (k := rg [3, 4, 8, 10, 12, 206] (k := rc (ht := fun hc16 => ?_) (hf := fun hc16 => ?_)))
                          · have hc := hc16
                            have hsl2 : si < x.slts.length := by have := of_decide_eq_true hc; omega
                            have hsi1 : ((si : Int) < (x.slts.length : Int)) = True := eq_true (by omega)
                            obtain ⟨a, hae⟩ : ∃ z_, x.slts[si]'hsl2 = z_ := ⟨_, rfl⟩
                            have hxa : (x.slts.map Slt.pv)[si]? = some (.agg [.int .i64 (a).pos, .int .i64 (a).len]) := by rw [map_get hsl2, hae]; rfl
                            have H := aj hsi1 (aj hxa H)
                            refine rg [4, 8] (k := rB (k := ?_))
                            have hxo := ht.ok.tens x hxm
                            have hbw := hxo.bw
                            have hbs := hxo.bs
                            have hao : a.ok := hxo.slts a (by rw [← hae]; exact List.getElem_mem _)
                            refine rp [4, 8] (k := ?_)
                            exact hJb0 _ _ ⟨rfl, au, ⟨t.frame, t.tens.set k (⟨x.unit, x.fns, x.queue, x.wins, x.slts.set si ⟨a.pos, n⟩⟩ : Ten)⟩, few_set (k := k) (x' := (⟨x.unit, x.fns, x.queue, x.wins, x.slts.set si ⟨a.pos, n⟩⟩ : Ten)) ht ⟨hxo.unit, hxo.fns, hxo.queue, hxo.wins, fun v hv => (List.mem_or_eq_of_mem_set hv).elim (hxo.slts v) (fun h => by rw [h]; exact ⟨hao.pos, hnI⟩), hxo.bw, by rw [List.length_set]; exact hbs⟩ (by (try simp only [List.length_set, List.length_append, List.length_cons, List.length_nil]); omega) (by (try simp only [List.length_set, List.length_append, List.length_cons, List.length_nil]); omega) hm ht.ok.frame, odd_done (by repeat (first | exact F1 | refine Fr.new ?_ _ | refine Fr.set ?_ (by omega) (by first | omega | (simp only [nxt_new, nxt_set]; omega)) _)) (by first | omega | (simp only [go_sem]; omega)) au (by omega) au ⟨.sl .clip [], .own (s.nxt + 1 + 1 + 1) 0 x.slts.length, rfl, .inl ⟨.clip, by simp [hwe]⟩, .inr ⟨(s.nxt + 1 + 1 + 1), _, by simp, by omega, (by first | (exact au) | (simp only [List.map_set, List.map_append, List.map_cons, List.map_nil]; exact au))⟩⟩⟩
                          · have hc := hc16
                            refine rk (k := rB (k := ?_))
                            have hxo := ht.ok.tens x hxm
                            have hbw := hxo.bw
                            have hbs := hxo.bs
                            refine rp [4, 8] (k := ?_)
                            exact hJb0 _ _ ⟨rfl, au, ⟨t.frame, t.tens.set k (⟨x.unit, x.fns, x.queue, x.wins, x.slts⟩ : Ten)⟩, few_set (k := k) (x' := (⟨x.unit, x.fns, x.queue, x.wins, x.slts⟩ : Ten)) ht ⟨hxo.unit, hxo.fns, hxo.queue, hxo.wins, hxo.slts, hxo.bw, hxo.bs⟩ (by (try simp only [List.length_set, List.length_append, List.length_cons, List.length_nil]); omega) (by (try simp only [List.length_set, List.length_append, List.length_cons, List.length_nil]); omega) hm ht.ok.frame, odd_done (by repeat (first | exact F1 | refine Fr.new ?_ _ | refine Fr.set ?_ (by omega) (by first | omega | (simp only [nxt_new, nxt_set]; omega)) _)) (by first | omega | (simp only [go_sem]; omega)) au (by omega) au ⟨.sl .clip [], .own (s.nxt + 1 + 1 + 1) 0 x.slts.length, rfl, .inl ⟨.clip, by simp [hwe]⟩, .inr ⟨(s.nxt + 1 + 1 + 1), _, by simp, by omega, (by first | (exact au) | (simp only [List.map_set, List.map_append, List.map_cons, List.map_nil]; exact au))⟩⟩⟩
                        · have hc := hc15
                          refine rs (k := rg [3, 4, 8, 10, 11, 56, 215] (k := rc (ht := fun hc17 => ?_) (hf := fun hc17 => ?_)))
                          · have hc := hc17
                            refine Run.drawCut 6 [] Try.mixed (by kernel_rfl) (by kernel_rfl) ?_
                            refine DetC.all au ?_
                            refine RunO.appendOwn au au au Try.td22 (by rw [Try.zp43]; rfl) (fun p hp => by rw [List.mem_singleton.1 hp]; exact ⟨rfl, by rw [Try.cz43]; rfl⟩) (by rw [Try.by43]; decide) (by rw [Try.by43]; simp; omega) (v := .own s1.nxt 0 (t.tens.length + 1)) (s' := (s1.set (s.nxt + 1 + 1) none).new (.row 43 ((t.tens.map Ten.pv).set k (.agg [.int .i64 x.unit, .int .u32 x.fns, .int .i64 x.queue, .sl .clip [], .own (s.nxt + 1 + 1 + 1) 0 x.slts.length]) ++ [.agg [.int .i64 x.unit, .int .u32 x.fns, .int .i64 x.queue, .sl .clip [], .own (s.nxt + 1 + 1 + 1) 0 x.slts.length]]))) (by unfold aAppendOwn; rw [bA]; simp only [ne_eq, List.cons_ne_nil, not_false_eq_true, List.length_set, List.length_map, Nat.le_refl, and_self, if_true, List.length_cons, List.length_nil, Nat.zero_add]; rw [List.take_of_length_le (by simp)]) ?_
                            refine rh [4, 8] (k := rB (k := ?_))
                            have hxo := ht.ok.tens x hxm
                            have hbw := hxo.bw
                            have hbs := hxo.bs
                            refine rp [4, 8] (k := ?_)
                            exact hJb0 _ _ ⟨rfl, au, ⟨t.frame, t.tens.set k (⟨x.unit, x.fns, x.queue, x.wins, x.slts⟩ : Ten) ++ [(⟨x.unit, x.fns, x.queue, x.wins, x.slts⟩ : Ten)]⟩, few_app (t := ⟨t.frame, t.tens.set k (⟨x.unit, x.fns, x.queue, x.wins, x.slts⟩ : Ten)⟩) (x := (⟨x.unit, x.fns, x.queue, x.wins, x.slts⟩ : Ten)) (few_set (k := k) (x' := (⟨x.unit, x.fns, x.queue, x.wins, x.slts⟩ : Ten)) ht ⟨hxo.unit, hxo.fns, hxo.queue, hxo.wins, hxo.slts, hxo.bw, hxo.bs⟩ (by (try simp only [List.length_set, List.length_append, List.length_cons, List.length_nil]); omega) (by (try simp only [List.length_set, List.length_append, List.length_cons, List.length_nil]); omega) hm ht.ok.frame) ⟨hxo.unit, hxo.fns, hxo.queue, hxo.wins, hxo.slts, hxo.bw, hxo.bs⟩ (by (try simp only [List.length_set, List.length_append, List.length_cons, List.length_nil]); omega) (by (try simp only [List.length_set, List.length_append, List.length_cons, List.length_nil]); omega) (by (try simp only [List.length_set, List.length_append, List.length_cons, List.length_nil]); omega) hm, odd_app (by repeat (first | exact F1 | refine Fr.new ?_ _ | refine Fr.set ?_ (by omega) (by first | omega | (simp only [nxt_new, nxt_set]; omega)) _)) (by first | omega | (simp only [go_sem]; omega)) au (by omega) au ⟨.sl .clip [], .own (s.nxt + 1 + 1 + 1) 0 x.slts.length, rfl, .inl ⟨.clip, by simp [hwe]⟩, .inr ⟨(s.nxt + 1 + 1 + 1), _, by simp, by omega, (by first | (exact au) | (simp only [List.map_set, List.map_append, List.map_cons, List.map_nil]; exact au))⟩⟩⟩
                          · have hc := hc17
                            refine rs (k := rg [3, 4, 8, 10, 11, 225] (k := rc (ht := fun hc18 => ?_) (hf := fun hc18 => ?_)))
                            · have hc := hc18
                              refine rg [4, 8] (k := rB (k := ?_))
                              have hxo := ht.ok.tens x hxm
                              have hbw := hxo.bw
                              have hbs := hxo.bs
                              refine rp [4, 8] (k := ?_)
                              exact hJb0 _ _ ⟨rfl, au, ⟨t.frame, t.tens.set k (⟨x.unit, x.fns, x.queue, x.wins, []⟩ : Ten)⟩, few_set (k := k) (x' := (⟨x.unit, x.fns, x.queue, x.wins, []⟩ : Ten)) ht ⟨hxo.unit, hxo.fns, hxo.queue, hxo.wins, fun a ha => (by cases ha), hxo.bw, by simp⟩ (by (try simp only [List.length_set, List.length_append, List.length_cons, List.length_nil]); omega) (by (try simp only [List.length_set, List.length_append, List.length_cons, List.length_nil]); omega) hm ht.ok.frame, odd_done (by repeat (first | exact F1 | refine Fr.new ?_ _ | refine Fr.set ?_ (by omega) (by first | omega | (simp only [nxt_new, nxt_set]; omega)) _)) (by first | omega | (simp only [go_sem]; omega)) au (by omega) au ⟨.sl .clip [], .sl .nil [], rfl, .inl ⟨.clip, by simp [hwe]⟩, .inl ⟨.nil, rfl⟩⟩⟩
                            · have hc := hc18
                              refine rs (k := rg [3, 4, 8, 10, 11, 63] (k := rc (ht := fun hc19 => ?_) (hf := fun hc19 => ?_)))
                              · have hc := hc19
                                exfalso
                                have h := of_decide_eq_true hc
                                first | omega | (simp at h; omega)
                              · have hc := hc19
                                refine rk (k := rB (k := ?_))
                                have hxo := ht.ok.tens x hxm
                                have hbw := hxo.bw
                                have hbs := hxo.bs
                                refine rp [4, 8] (k := ?_)
                                exact hJb0 _ _ ⟨rfl, au, ⟨t.frame, t.tens.set k (⟨x.unit, x.fns, x.queue, x.wins, x.slts⟩ : Ten)⟩, few_set (k := k) (x' := (⟨x.unit, x.fns, x.queue, x.wins, x.slts⟩ : Ten)) ht ⟨hxo.unit, hxo.fns, hxo.queue, hxo.wins, hxo.slts, hxo.bw, hxo.bs⟩ (by (try simp only [List.length_set, List.length_append, List.length_cons, List.length_nil]); omega) (by (try simp only [List.length_set, List.length_append, List.length_cons, List.length_nil]); omega) hm ht.ok.frame, odd_done (by repeat (first | exact F1 | refine Fr.new ?_ _ | refine Fr.set ?_ (by omega) (by first | omega | (simp only [nxt_new, nxt_set]; omega)) _)) (by first | omega | (simp only [go_sem]; omega)) au (by omega) au ⟨.sl .clip [], .own (s.nxt + 1 + 1 + 1) 0 x.slts.length, rfl, .inl ⟨.clip, by simp [hwe]⟩, .inr ⟨(s.nxt + 1 + 1 + 1), _, by simp, by omega, (by first | (exact au) | (simp only [List.map_set, List.map_append, List.map_cons, List.map_nil]; exact au))⟩⟩⟩
set_option maxRecDepth 100000 in
theorem odd_nn {t : Tab} {m : Nat} (hm : m ≤ 1000) (ht : t.few m) {what at_ n : Int} (hwI : I64 what) (haI : I64 at_) (hnI : I64 n) {k : Nat} (hkw : withinI at_ 0 (t.tens.length - 1) = k) (hkl : k < t.tens.length) {x : Ten} (hxe : t.tens[k] = x) (hwe : x.wins = []) (hse : x.slts = []) {s : St} : ACalls Try.prog 11 [t.pv, .int .i64 what, .int .i64 at_, .int .i64 n] s (fun r s' => ∃ t' : Tab, r = t'.pv ∧ t'.few (m + 1) ∧ s' = s) := by
  refine go Try.func11 (k := fun hwf H => ?_)
  have hnt := ht.nt
  have hxm : x ∈ t.tens := by rw [← hxe]; exact List.getElem_mem _
  have hnw := ht.nw x hxm
  have hns := ht.ns x hxm
  have hte : t.tens ≠ [] := fun h => by rw [h] at hkl; simp at hkl
  have hxx : (t.tens.map Ten.pv)[k]? = some (.agg [.int .i64 (x).unit, .int .u32 (x).fns, .int .i64 (x).queue, .sl .unk ((x).wins.map Win.pv), .sl .unk ((x).slts.map Slt.pv)]) := by rw [map_get hkl, hxe]; rfl
  have hgs : ∀ X, ((t.tens.map Ten.pv).set k X)[k]? = some X := fun X => by rw [List.getElem?_set]; simp [hkl]
  have hwl : IntKind.i64.wrap ((t.tens.length : Int) - 1) = (t.tens.length : Int) - 1 := wrap_i64 (by omega)
  have htl0 : ((t.tens.length : Int) = 0) = False := eq_false (by omega)
  have hk2 : ((k : Int) < (t.tens.length : Int)) = True := eq_true (by omega)
  have H := aj hgs (aj hwl (aj hkw (aj hk2 (aj htl0 (aj hwe (aj hse H))))))
  refine rs (k := rg [1, 2, 3, 4, 8] (k := rs (k := rr (k := rO (k := ro (pre := [_, _]) (k := ?_))))))
  refine RunO.appendFirst au au au Try.td22 (by rw [Try.zp43]; rfl) (isEls_none _ _) (isEls_map (f := Ten.pv) (fun a => ⟨rfl, by rw [Try.cz43]; rfl⟩) _) (by rw [Try.by43]; decide) (by rw [Try.by43]; simp; omega) (by simp only [aAppendFirst, List.map_eq_nil_iff, ne_eq, hte, not_false_eq_true, if_true, List.length_nil, Nat.zero_add, List.length_map, List.nil_append, go_sem]; rfl) ?_
  refine rh [1, 2, 3, 4, 8] (k := rs (k := rs (k := rg [1, 2, 3, 4, 8, 21] (k := rc (ht := fun hc0 => ?_) (hf := fun hc0 => ?_)))))
  · cases hc0
  · have hc := hc0
    refine rk (k := rs (k := rr (k := ro (pre := [_, _, _, _, _]) (k := rC (h := within_ (lo := 0) (hi := (t.tens.length : Int) - 1) (by decide) (by omega) (by omega)) (k := rh [1, 2, 3, 4, 8, 9] (k := rs (k := rg [1, 2, 3, 4, 8, 10] (k := rs (k := ?_)))))))))
    have H := aj hxx H
    refine rr (k := ro (pre := [_]) (k := rO (k := ro (pre := [_, _, _, _]) (k := ?_))))
    refine RunO.append au au au Try.td40 (by rw [Try.zp45]; rfl) (isEls_none _ _) (isEls_none _ _) (by rw [Try.by45]; decide) (by simp) (v := .sl .clip []) (by unfold aAppend; rw [if_pos rfl]) ?_
    refine rh [1, 2, 3, 4, 8, 10] (k := rs (k := rr (k := ro (pre := [_]) (k := rO (k := ro (pre := [_, _, _, _]) (k := ?_))))))
    refine RunO.append au au au Try.td41 (by rw [Try.zp48]; rfl) (isEls_none _ _) (isEls_none _ _) (by rw [Try.by48]; decide) (by simp) (v := .sl .clip []) (by unfold aAppend; rw [if_pos rfl]) ?_
    refine rh [1, 2, 3, 4, 8, 10] (k := rs (k := ?_))
    refine Run.abs (fun s1 => Fr s s1 ∧ s1.nxt = s.nxt + 1 + 1 + 1 ∧ s1.blk s.nxt = some (.row 24 [.agg [.int .i64 t.frame, .own (s.nxt + 1 + 1) 0 t.tens.length]]) ∧ s1.blk (s.nxt + 1) = some (.row 24 [.agg [.int .i64 0, .sl .nil []]]) ∧ s1.blk (s.nxt + 1 + 1) = some (.row 43 ((t.tens.map Ten.pv).set k (.agg [.int .i64 x.unit, .int .u32 x.fns, .int .i64 x.queue, .sl .clip [], .sl .clip []])))) ⟨by repeat (first | exact Fr.refl hwf | refine Fr.new ?_ _ | refine Fr.set ?_ (by omega) (by simp only [nxt_new, nxt_set]; omega) _), by simp only [go_sem], by simp only [go_sem, ↓reduceIte, Nat.reduceEqDiff, Nat.reduceAdd], by simp only [go_sem, ↓reduceIte, Nat.reduceEqDiff, Nat.reduceAdd], by simp only [go_sem, ↓reduceIte, Nat.reduceEqDiff, Nat.reduceAdd]⟩ ?_
    rintro s1 ⟨F1, hn1, b4, b8, bA⟩
    have hwi0 := withinI_bound (n := n) (lo := 0) (hi := 5) (by decide)
    have hsi0 := withinI_bound (n := n) (lo := 0) (hi := 2) (by decide)
    obtain ⟨wi, hwi⟩ : ∃ y : Nat, withinI n 0 5 = y := ⟨_, (Int.toNat_of_nonneg hwi0.1).symm⟩
    obtain ⟨si, hsi⟩ : ∃ y : Nat, withinI n 0 2 = y := ⟨_, (Int.toNat_of_nonneg hsi0.1).symm⟩
    have z0 : (s.nxt = s1.nxt) = False := eq_false (by omega)
    have z1 : (s.nxt + 1 = s1.nxt) = False := eq_false (by omega)
    have z2 : (s.nxt + 1 + 1 = s1.nxt) = False := eq_false (by omega)
    have y0 : (s1.nxt = s.nxt) = False := eq_false (by omega)
    have y1 : (s1.nxt = s.nxt + 1) = False := eq_false (by omega)
    have y2 : (s1.nxt = s.nxt + 1 + 1) = False := eq_false (by omega)
    have H := aj b4 (aj b8 (aj bA (aj hwi (aj hsi (aj z0 (aj z1 (aj z2 (aj y0 (aj y1 (aj y2 H))))))))))
    refine rr (k := ro (pre := [_]) (k := rC (h := within_ (lo := 0) (hi := 5) (by decide) (by decide) (by decide)) (k := ro (pre := [_]) (k := rC (h := within_ (lo := 0) (hi := 2) (by decide) (by decide) (by decide)) (k := rh [1, 2, 3, 4, 8, 10, 11, 12] (k := rs (k := rs (k := rr (k := ro (pre := [_]) (k := rC (h := within_ (lo := 0) (hi := 13) (by decide) (by decide) (by decide)) (k := ?_)))))))))))
    refine rl [2, 3, 4, 8, 10, 11, 12, 56] (k := ?_)
    refine Run.join (fun e s' => e = [(4, .ptr s.nxt 0 0), (8, .ptr (s.nxt + 1) 0 0)] ∧ s'.blk (s.nxt + 1) = some (.row 24 [.agg [.int .i64 0, .sl .nil []]]) ∧ ∃ t' : Tab, t'.few (m + 1) ∧ OddR s s' t') ?_ ?_
    · rintro e s2 ⟨rfl, r0, t', hfew, hO⟩
      obtain ⟨A', els, r1, r2, r3, r4, r5⟩ := hO.row
      have H := aj r0 (aj r1 H)
      refine rs (k := rg [8] (k := rR (k := ?_)))
      exact Ret.pureF (r' := t'.pv) 7 (by simp only [Try.f11, go_sem, ↓reduceIte, r0, r1] <;> rfl) ((hO.set _).frz (by simp only [go_sem, ↓reduceIte]; exact r1)) (blw_tab _ _) hwf (hO.set _).fr.blk ⟨t', rfl, hfew, rfl⟩
    intro hJb0
    refine rb (k := rs (k := ?_))
    obtain ⟨wv, hwv⟩ : ∃ y, withinI what 0 13 = y := ⟨_, rfl⟩
    rw [hwv]
    refine rg [2, 3, 4, 8, 10, 11, 12, 56, 73] (k := rc (ht := fun hc1 => ?_) (hf := fun hc1 => ?_))
    · have hc := hc1
      refine rg [4, 8] (k := rB (k := ?_))
      have hxo := ht.ok.tens x hxm
      have hbw := hxo.bw
      have hbs := hxo.bs
      refine rp [4, 8] (k := ?_)
      exact hJb0 _ _ ⟨rfl, au, ⟨n, t.tens.set k (⟨x.unit, x.fns, x.queue, x.wins, x.slts⟩ : Ten)⟩, few_set (k := k) (x' := (⟨x.unit, x.fns, x.queue, x.wins, x.slts⟩ : Ten)) ht ⟨hxo.unit, hxo.fns, hxo.queue, hxo.wins, hxo.slts, hxo.bw, hxo.bs⟩ (by (try simp only [List.length_set, List.length_append, List.length_cons, List.length_nil]); omega) (by (try simp only [List.length_set, List.length_append, List.length_cons, List.length_nil]); omega) hm hnI, odd_done (by repeat (first | exact F1 | refine Fr.new ?_ _ | refine Fr.set ?_ (by omega) (by first | omega | (simp only [nxt_new, nxt_set]; omega)) _)) (by first | omega | (simp only [go_sem]; omega)) au (by omega) au ⟨.sl .clip [], .sl .clip [], rfl, .inl ⟨.clip, by simp [hwe]⟩, .inl ⟨.clip, by simp [hse]⟩⟩⟩
    · have hc := hc1
      refine rs (k := rg [2, 3, 4, 8, 10, 11, 12, 56, 77] (k := rc (ht := fun hc2 => ?_) (hf := fun hc2 => ?_)))
      · have hc := hc2
        refine rg [4, 8] (k := rB (k := ?_))
        have hxo := ht.ok.tens x hxm
        have hbw := hxo.bw
        have hbs := hxo.bs
        refine rp [4, 8] (k := ?_)
        exact hJb0 _ _ ⟨rfl, au, ⟨t.frame, t.tens.set k (⟨n, x.fns, x.queue, x.wins, x.slts⟩ : Ten)⟩, few_set (k := k) (x' := (⟨n, x.fns, x.queue, x.wins, x.slts⟩ : Ten)) ht ⟨hnI, hxo.fns, hxo.queue, hxo.wins, hxo.slts, hxo.bw, hxo.bs⟩ (by (try simp only [List.length_set, List.length_append, List.length_cons, List.length_nil]); omega) (by (try simp only [List.length_set, List.length_append, List.length_cons, List.length_nil]); omega) hm ht.ok.frame, odd_done (by repeat (first | exact F1 | refine Fr.new ?_ _ | refine Fr.set ?_ (by omega) (by first | omega | (simp only [nxt_new, nxt_set]; omega)) _)) (by first | omega | (simp only [go_sem]; omega)) au (by omega) au ⟨.sl .clip [], .sl .clip [], rfl, .inl ⟨.clip, by simp [hwe]⟩, .inl ⟨.clip, by simp [hse]⟩⟩⟩
      · have hc := hc2
        refine rs (k := rg [2, 3, 4, 8, 10, 11, 12, 56, 83] (k := rc (ht := fun hc3 => ?_) (hf := fun hc3 => ?_)))
        · have hc := hc3
          refine rg [4, 8] (k := rB (k := ?_))
          have hxo := ht.ok.tens x hxm
          have hbw := hxo.bw
          have hbs := hxo.bs
          refine rp [4, 8] (k := ?_)
          exact hJb0 _ _ ⟨rfl, au, ⟨t.frame, t.tens.set k (⟨x.unit, x.fns, n, x.wins, x.slts⟩ : Ten)⟩, few_set (k := k) (x' := (⟨x.unit, x.fns, n, x.wins, x.slts⟩ : Ten)) ht ⟨hxo.unit, hxo.fns, hnI, hxo.wins, hxo.slts, hxo.bw, hxo.bs⟩ (by (try simp only [List.length_set, List.length_append, List.length_cons, List.length_nil]); omega) (by (try simp only [List.length_set, List.length_append, List.length_cons, List.length_nil]); omega) hm ht.ok.frame, odd_done (by repeat (first | exact F1 | refine Fr.new ?_ _ | refine Fr.set ?_ (by omega) (by first | omega | (simp only [nxt_new, nxt_set]; omega)) _)) (by first | omega | (simp only [go_sem]; omega)) au (by omega) au ⟨.sl .clip [], .sl .clip [], rfl, .inl ⟨.clip, by simp [hwe]⟩, .inl ⟨.clip, by simp [hse]⟩⟩⟩
        · have hc := hc3
          refine rs (k := rg [2, 3, 4, 8, 10, 11, 12, 56, 89] (k := rc (ht := fun hc4 => ?_) (hf := fun hc4 => ?_)))
          · have hc := hc4
            refine rg [4, 8] (k := rB (k := ?_))
            have hxo := ht.ok.tens x hxm
            have hbw := hxo.bw
            have hbs := hxo.bs
            refine rp [4, 8] (k := ?_)
            exact hJb0 _ _ ⟨rfl, au, ⟨t.frame, t.tens.set k (⟨x.unit, IntKind.u32.wrap n, x.queue, x.wins, x.slts⟩ : Ten)⟩, few_set (k := k) (x' := (⟨x.unit, IntKind.u32.wrap n, x.queue, x.wins, x.slts⟩ : Ten)) ht ⟨hxo.unit, U32_wrap n, hxo.queue, hxo.wins, hxo.slts, hxo.bw, hxo.bs⟩ (by (try simp only [List.length_set, List.length_append, List.length_cons, List.length_nil]); omega) (by (try simp only [List.length_set, List.length_append, List.length_cons, List.length_nil]); omega) hm ht.ok.frame, odd_done (by repeat (first | exact F1 | refine Fr.new ?_ _ | refine Fr.set ?_ (by omega) (by first | omega | (simp only [nxt_new, nxt_set]; omega)) _)) (by first | omega | (simp only [go_sem]; omega)) au (by omega) au ⟨.sl .clip [], .sl .clip [], rfl, .inl ⟨.clip, by simp [hwe]⟩, .inl ⟨.clip, by simp [hse]⟩⟩⟩
          · have hc := hc4
            refine rs (k := rg [2, 3, 4, 8, 10, 11, 12, 56, 96] (k := rc (ht := fun hc5 => ?_) (hf := fun hc5 => ?_)))
            · have hc := hc5
              refine rr (k := ro (pre := [_, _, _, _, _, _, _]) (k := rO (k := ?_)))
              refine RunO.appendFirst au au au Try.td41 (by rw [Try.zp48]; rfl) (isEls_none _ _) (isEls_map (f := Slt.pv) (fun a => ⟨rfl, by rw [Try.cz48]; rfl⟩) [⟨n, 72⟩]) (by rw [Try.by48]; decide) (by rw [Try.by48]; simp) (v := .own s1.nxt 0 1) (s' := s1.new (.row 48 [.agg [.int .i64 n, .int .i64 72]])) (by simp [aAppendFirst, Slt.pv, Win.pv]) ?_
              refine rh [4, 8] (k := rB (k := ?_))
              have hxo := ht.ok.tens x hxm
              have hbw := hxo.bw
              have hbs := hxo.bs
              refine rp [4, 8] (k := ?_)
              exact hJb0 _ _ ⟨rfl, au, ⟨t.frame, t.tens.set k (⟨x.unit, x.fns, x.queue, x.wins, x.slts ++ [⟨n, 72⟩]⟩ : Ten)⟩, few_set (k := k) (x' := (⟨x.unit, x.fns, x.queue, x.wins, x.slts ++ [⟨n, 72⟩]⟩ : Ten)) ht ⟨hxo.unit, hxo.fns, hxo.queue, hxo.wins, fun a ha => (List.mem_append.1 ha).elim (hxo.slts a) (fun h => by rw [List.mem_singleton.1 h]; exact ⟨hnI, (show I64 72 by decide)⟩), hxo.bw, by (try simp only [List.length_set, List.length_append, List.length_cons, List.length_nil]); omega⟩ (by (try simp only [List.length_set, List.length_append, List.length_cons, List.length_nil]); omega) (by (try simp only [List.length_set, List.length_append, List.length_cons, List.length_nil]); omega) hm ht.ok.frame, odd_done (by repeat (first | exact F1 | refine Fr.new ?_ _ | refine Fr.set ?_ (by omega) (by first | omega | (simp only [nxt_new, nxt_set]; omega)) _)) (by first | omega | (simp only [go_sem]; omega)) au (by omega) au ⟨.sl .clip [], .own s1.nxt 0 1, rfl, .inl ⟨.clip, by simp [hwe]⟩, .inr ⟨s1.nxt, _, by simp [hse], by omega, (by first | (exact au) | (simp only [List.map_set, List.map_append, List.map_cons, List.map_nil]; exact au))⟩⟩⟩
            · have hc := hc5
              refine rs (k := rg [2, 3, 4, 8, 10, 11, 12, 56, 109] (k := rc (ht := fun hc6 => ?_) (hf := fun hc6 => ?_)))
              · have hc := hc6
                have hb0 := ibits_and_le n 3 (by decide)
                have hb1 := ibits_and_le at_ 1023 (by decide)
                have hb2 := ibits_and_le n 511 (by decide)
                have hb3 := ibits_and_le at_ 31 (by decide)
                obtain ⟨g0, hg0⟩ : ∃ y, ibits .and .i64 n 3 = y := ⟨_, rfl⟩
                obtain ⟨g1, hg1⟩ : ∃ y, ibits .and .i64 at_ 1023 = y := ⟨_, rfl⟩
                obtain ⟨g2, hg2⟩ : ∃ y, ibits .and .i64 n 511 = y := ⟨_, rfl⟩
                obtain ⟨g4, hg4⟩ : ∃ y, ibits .and .i64 at_ 31 = y := ⟨_, rfl⟩
                have hb0 : 0 ≤ g0 ∧ g0 ≤ 3 := hg0 ▸ hb0
                have hb1 : 0 ≤ g1 ∧ g1 ≤ 1023 := hg1 ▸ hb1
                have hb2 : 0 ≤ g2 ∧ g2 ≤ 511 := hg2 ▸ hb2
                have hb3 : 0 ≤ g4 ∧ g4 ≤ 31 := hg4 ▸ hb3
                have hg3 : IntKind.i64.wrap (1 + g4) = 1 + g4 := wrap_i64 (by omega)
                have H := aj hg0 (aj hg1 (aj hg2 (aj hg4 (aj hg3 H))))
                refine rr (k := ro (pre := [_, _, _, _, _, _, _, _, _, _, _, _, _, _, _]) (k := rO (k := ?_)))
                refine RunO.appendFirst au au au Try.td40 (by rw [Try.zp45]; rfl) (isEls_none _ _) (isEls_map (f := Win.pv) (fun a => ⟨rfl, by rw [Try.cz45]; rfl⟩) [⟨g0, g1, g2, 1 + g4⟩]) (by rw [Try.by45]; decide) (by rw [Try.by45]; simp) (v := .own s1.nxt 0 1) (s' := s1.new (.row 45 [.agg [.int .i64 g0, .int .i64 g1, .int .i64 g2, .int .i64 (1 + g4)]])) (by simp [aAppendFirst, Slt.pv, Win.pv]) ?_
                refine rh [4, 8] (k := rB (k := ?_))
                have hxo := ht.ok.tens x hxm
                have hbw := hxo.bw
                have hbs := hxo.bs
                refine rp [4, 8] (k := ?_)
                exact hJb0 _ _ ⟨rfl, au, ⟨t.frame, t.tens.set k (⟨x.unit, x.fns, x.queue, x.wins ++ [⟨g0, g1, g2, 1 + g4⟩], x.slts⟩ : Ten)⟩, few_set (k := k) (x' := (⟨x.unit, x.fns, x.queue, x.wins ++ [⟨g0, g1, g2, 1 + g4⟩], x.slts⟩ : Ten)) ht ⟨hxo.unit, hxo.fns, hxo.queue, fun a ha => (List.mem_append.1 ha).elim (hxo.wins a) (fun h => by rw [List.mem_singleton.1 h]; exact ⟨⟨by (try simp only []); omega, by (try simp only []); omega⟩, ⟨by (try simp only []); omega, by (try simp only []); omega⟩, ⟨by (try simp only []); omega, by (try simp only []); omega⟩, ⟨by (try simp only []); omega, by (try simp only []); omega⟩⟩), hxo.slts, by (try simp only [List.length_set, List.length_append, List.length_cons, List.length_nil]); omega, hxo.bs⟩ (by (try simp only [List.length_set, List.length_append, List.length_cons, List.length_nil]); omega) (by (try simp only [List.length_set, List.length_append, List.length_cons, List.length_nil]); omega) hm ht.ok.frame, odd_done (by repeat (first | exact F1 | refine Fr.new ?_ _ | refine Fr.set ?_ (by omega) (by first | omega | (simp only [nxt_new, nxt_set]; omega)) _)) (by first | omega | (simp only [go_sem]; omega)) au (by omega) au ⟨.own s1.nxt 0 1, .sl .clip [], rfl, .inr ⟨s1.nxt, _, by simp [hwe], by omega, (by first | (exact au) | (simp only [List.map_set, List.map_append, List.map_cons, List.map_nil]; exact au))⟩, .inl ⟨.clip, by simp [hse]⟩⟩⟩
              · have hc := hc6
                refine rs (k := rg [3, 4, 8, 10, 11, 12, 56, 130] (k := rc (ht := fun hc7 => ?_) (hf := fun hc7 => ?_)))
                · have hc := hc7
                  refine rs (k := rg [3, 4, 8, 10, 11, 138] (k := rc (ht := fun hc8 => ?_) (hf := fun hc8 => ?_)))
                  · have hc := hc8
                    exfalso
                    have h := of_decide_eq_true hc
                    first | omega | (simp at h; omega)
                  · have hc := hc8
                    refine rk (k := rB (k := ?_))
                    have hxo := ht.ok.tens x hxm
                    have hbw := hxo.bw
                    have hbs := hxo.bs
                    refine rp [4, 8] (k := ?_)
                    exact hJb0 _ _ ⟨rfl, au, ⟨t.frame, t.tens.set k (⟨x.unit, x.fns, x.queue, x.wins, x.slts⟩ : Ten)⟩, few_set (k := k) (x' := (⟨x.unit, x.fns, x.queue, x.wins, x.slts⟩ : Ten)) ht ⟨hxo.unit, hxo.fns, hxo.queue, hxo.wins, hxo.slts, hxo.bw, hxo.bs⟩ (by (try simp only [List.length_set, List.length_append, List.length_cons, List.length_nil]); omega) (by (try simp only [List.length_set, List.length_append, List.length_cons, List.length_nil]); omega) hm ht.ok.frame, odd_done (by repeat (first | exact F1 | refine Fr.new ?_ _ | refine Fr.set ?_ (by omega) (by first | omega | (simp only [nxt_new, nxt_set]; omega)) _)) (by first | omega | (simp only [go_sem]; omega)) au (by omega) au ⟨.sl .clip [], .sl .clip [], rfl, .inl ⟨.clip, by simp [hwe]⟩, .inl ⟨.clip, by simp [hse]⟩⟩⟩
                · have hc := hc7
                  refine rs (k := rg [3, 4, 8, 10, 11, 12, 56, 147] (k := rc (ht := fun hc9 => ?_) (hf := fun hc9 => ?_)))
                  · have hc := hc9
                    refine rs (k := rg [3, 4, 8, 10, 11, 155] (k := rc (ht := fun hc10 => ?_) (hf := fun hc10 => ?_)))
                    · have hc := hc10
                      exfalso
                      have h := of_decide_eq_true hc
                      first | omega | (simp at h; omega)
                    · have hc := hc10
                      refine rk (k := rB (k := ?_))
                      have hxo := ht.ok.tens x hxm
                      have hbw := hxo.bw
                      have hbs := hxo.bs
                      refine rp [4, 8] (k := ?_)
                      exact hJb0 _ _ ⟨rfl, au, ⟨t.frame, t.tens.set k (⟨x.unit, x.fns, x.queue, x.wins, x.slts⟩ : Ten)⟩, few_set (k := k) (x' := (⟨x.unit, x.fns, x.queue, x.wins, x.slts⟩ : Ten)) ht ⟨hxo.unit, hxo.fns, hxo.queue, hxo.wins, hxo.slts, hxo.bw, hxo.bs⟩ (by (try simp only [List.length_set, List.length_append, List.length_cons, List.length_nil]); omega) (by (try simp only [List.length_set, List.length_append, List.length_cons, List.length_nil]); omega) hm ht.ok.frame, odd_done (by repeat (first | exact F1 | refine Fr.new ?_ _ | refine Fr.set ?_ (by omega) (by first | omega | (simp only [nxt_new, nxt_set]; omega)) _)) (by first | omega | (simp only [go_sem]; omega)) au (by omega) au ⟨.sl .clip [], .sl .clip [], rfl, .inl ⟨.clip, by simp [hwe]⟩, .inl ⟨.clip, by simp [hse]⟩⟩⟩
                  · have hc := hc9
                    refine rs (k := rg [3, 4, 8, 10, 11, 12, 56, 164] (k := rc (ht := fun hc11 => ?_) (hf := fun hc11 => ?_)))
                    · have hc := hc11
                      refine rs (k := rg [3, 4, 8, 10, 11, 172] (k := rc (ht := fun hc12 => ?_) (hf := fun hc12 => ?_)))
                      · have hc := hc12
                        exfalso
                        have h := of_decide_eq_true hc
                        first | omega | (simp at h; omega)
                      · have hc := hc12
                        refine rk (k := rB (k := ?_))
                        have hxo := ht.ok.tens x hxm
                        have hbw := hxo.bw
                        have hbs := hxo.bs
                        refine rp [4, 8] (k := ?_)
                        exact hJb0 _ _ ⟨rfl, au, ⟨t.frame, t.tens.set k (⟨x.unit, x.fns, x.queue, x.wins, x.slts⟩ : Ten)⟩, few_set (k := k) (x' := (⟨x.unit, x.fns, x.queue, x.wins, x.slts⟩ : Ten)) ht ⟨hxo.unit, hxo.fns, hxo.queue, hxo.wins, hxo.slts, hxo.bw, hxo.bs⟩ (by (try simp only [List.length_set, List.length_append, List.length_cons, List.length_nil]); omega) (by (try simp only [List.length_set, List.length_append, List.length_cons, List.length_nil]); omega) hm ht.ok.frame, odd_done (by repeat (first | exact F1 | refine Fr.new ?_ _ | refine Fr.set ?_ (by omega) (by first | omega | (simp only [nxt_new, nxt_set]; omega)) _)) (by first | omega | (simp only [go_sem]; omega)) au (by omega) au ⟨.sl .clip [], .sl .clip [], rfl, .inl ⟨.clip, by simp [hwe]⟩, .inl ⟨.clip, by simp [hse]⟩⟩⟩
                    · have hc := hc11
                      refine rs (k := rg [3, 4, 8, 10, 11, 12, 56, 181] (k := rc (ht := fun hc13 => ?_) (hf := fun hc13 => ?_)))
                      · have hc := hc13
                        refine rs (k := rg [3, 4, 8, 10, 12, 189] (k := rc (ht := fun hc14 => ?_) (hf := fun hc14 => ?_)))
                        · have hc := hc14
                          exfalso
                          have h := of_decide_eq_true hc
                          first | omega | (simp at h; omega)
                        · have hc := hc14
                          refine rk (k := rB (k := ?_))
                          have hxo := ht.ok.tens x hxm
                          have hbw := hxo.bw
                          have hbs := hxo.bs
                          refine rp [4, 8] (k := ?_)
                          exact hJb0 _ _ ⟨rfl, au, ⟨t.frame, t.tens.set k (⟨x.unit, x.fns, x.queue, x.wins, x.slts⟩ : Ten)⟩, few_set (k := k) (x' := (⟨x.unit, x.fns, x.queue, x.wins, x.slts⟩ : Ten)) ht ⟨hxo.unit, hxo.fns, hxo.queue, hxo.wins, hxo.slts, hxo.bw, hxo.bs⟩ (by (try simp only [List.length_set, List.length_append, List.length_cons, List.length_nil]); omega) (by (try simp only [List.length_set, List.length_append, List.length_cons, List.length_nil]); omega) hm ht.ok.frame, odd_done (by repeat (first | exact F1 | refine Fr.new ?_ _ | refine Fr.set ?_ (by omega) (by first | omega | (simp only [nxt_new, nxt_set]; omega)) _)) (by first | omega | (simp only [go_sem]; omega)) au (by omega) au ⟨.sl .clip [], .sl .clip [], rfl, .inl ⟨.clip, by simp [hwe]⟩, .inl ⟨.clip, by simp [hse]⟩⟩⟩
                      · have hc := hc13
                        refine rs (k := rg [3, 4, 8, 10, 11, 12, 56, 198] (k := rc (ht := fun hc15 => ?_) (hf := fun hc15 => ?_)))
                        · have hc := hc15
                          refine rs (k := rg [3, 4, 8, 10, 12, 206] (k := rc (ht := fun hc16 => ?_) (hf := fun hc16 => ?_)))
                          · have hc := hc16
                            exfalso
                            have h := of_decide_eq_true hc
                            first | omega | (simp at h; omega)
                          · have hc := hc16
                            refine rk (k := rB (k := ?_))
                            have hxo := ht.ok.tens x hxm
                            have hbw := hxo.bw
                            have hbs := hxo.bs
                            refine rp [4, 8] (k := ?_)
                            exact hJb0 _ _ ⟨rfl, au, ⟨t.frame, t.tens.set k (⟨x.unit, x.fns, x.queue, x.wins, x.slts⟩ : Ten)⟩, few_set (k := k) (x' := (⟨x.unit, x.fns, x.queue, x.wins, x.slts⟩ : Ten)) ht ⟨hxo.unit, hxo.fns, hxo.queue, hxo.wins, hxo.slts, hxo.bw, hxo.bs⟩ (by (try simp only [List.length_set, List.length_append, List.length_cons, List.length_nil]); omega) (by (try simp only [List.length_set, List.length_append, List.length_cons, List.length_nil]); omega) hm ht.ok.frame, odd_done (by repeat (first | exact F1 | refine Fr.new ?_ _ | refine Fr.set ?_ (by omega) (by first | omega | (simp only [nxt_new, nxt_set]; omega)) _)) (by first | omega | (simp only [go_sem]; omega)) au (by omega) au ⟨.sl .clip [], .sl .clip [], rfl, .inl ⟨.clip, by simp [hwe]⟩, .inl ⟨.clip, by simp [hse]⟩⟩⟩
                        · have hc := hc15
                          refine rs (k := rg [3, 4, 8, 10, 11, 56, 215] (k := rc (ht := fun hc17 => ?_) (hf := fun hc17 => ?_)))
                          · have hc := hc17
                            refine Run.drawCut 6 [] Try.mixed (by kernel_rfl) (by kernel_rfl) ?_
                            refine DetC.all au ?_
                            refine RunO.appendOwn au au au Try.td22 (by rw [Try.zp43]; rfl) (fun p hp => by rw [List.mem_singleton.1 hp]; exact ⟨rfl, by rw [Try.cz43]; rfl⟩) (by rw [Try.by43]; decide) (by rw [Try.by43]; simp; omega) (v := .own s1.nxt 0 (t.tens.length + 1)) (s' := (s1.set (s.nxt + 1 + 1) none).new (.row 43 ((t.tens.map Ten.pv).set k (.agg [.int .i64 x.unit, .int .u32 x.fns, .int .i64 x.queue, .sl .clip [], .sl .clip []]) ++ [.agg [.int .i64 x.unit, .int .u32 x.fns, .int .i64 x.queue, .sl .clip [], .sl .clip []]]))) (by unfold aAppendOwn; rw [bA]; simp only [ne_eq, List.cons_ne_nil, not_false_eq_true, List.length_set, List.length_map, Nat.le_refl, and_self, if_true, List.length_cons, List.length_nil, Nat.zero_add]; rw [List.take_of_length_le (by simp)]) ?_
                            refine rh [4, 8] (k := rB (k := ?_))
                            have hxo := ht.ok.tens x hxm
                            have hbw := hxo.bw
                            have hbs := hxo.bs
                            refine rp [4, 8] (k := ?_)
                            exact hJb0 _ _ ⟨rfl, au, ⟨t.frame, t.tens.set k (⟨x.unit, x.fns, x.queue, x.wins, x.slts⟩ : Ten) ++ [(⟨x.unit, x.fns, x.queue, x.wins, x.slts⟩ : Ten)]⟩, few_app (t := ⟨t.frame, t.tens.set k (⟨x.unit, x.fns, x.queue, x.wins, x.slts⟩ : Ten)⟩) (x := (⟨x.unit, x.fns, x.queue, x.wins, x.slts⟩ : Ten)) (few_set (k := k) (x' := (⟨x.unit, x.fns, x.queue, x.wins, x.slts⟩ : Ten)) ht ⟨hxo.unit, hxo.fns, hxo.queue, hxo.wins, hxo.slts, hxo.bw, hxo.bs⟩ (by (try simp only [List.length_set, List.length_append, List.length_cons, List.length_nil]); omega) (by (try simp only [List.length_set, List.length_append, List.length_cons, List.length_nil]); omega) hm ht.ok.frame) ⟨hxo.unit, hxo.fns, hxo.queue, hxo.wins, hxo.slts, hxo.bw, hxo.bs⟩ (by (try simp only [List.length_set, List.length_append, List.length_cons, List.length_nil]); omega) (by (try simp only [List.length_set, List.length_append, List.length_cons, List.length_nil]); omega) (by (try simp only [List.length_set, List.length_append, List.length_cons, List.length_nil]); omega) hm, odd_app (by repeat (first | exact F1 | refine Fr.new ?_ _ | refine Fr.set ?_ (by omega) (by first | omega | (simp only [nxt_new, nxt_set]; omega)) _)) (by first | omega | (simp only [go_sem]; omega)) au (by omega) au ⟨.sl .clip [], .sl .clip [], rfl, .inl ⟨.clip, by simp [hwe]⟩, .inl ⟨.clip, by simp [hse]⟩⟩⟩
                          · have hc := hc17
                            refine rs (k := rg [3, 4, 8, 10, 11, 225] (k := rc (ht := fun hc18 => ?_) (hf := fun hc18 => ?_)))
                            · have hc := hc18
                              refine rg [4, 8] (k := rB (k := ?_))
                              have hxo := ht.ok.tens x hxm
                              have hbw := hxo.bw
                              have hbs := hxo.bs
                              refine rp [4, 8] (k := ?_)
                              exact hJb0 _ _ ⟨rfl, au, ⟨t.frame, t.tens.set k (⟨x.unit, x.fns, x.queue, x.wins, []⟩ : Ten)⟩, few_set (k := k) (x' := (⟨x.unit, x.fns, x.queue, x.wins, []⟩ : Ten)) ht ⟨hxo.unit, hxo.fns, hxo.queue, hxo.wins, fun a ha => (by cases ha), hxo.bw, by simp⟩ (by (try simp only [List.length_set, List.length_append, List.length_cons, List.length_nil]); omega) (by (try simp only [List.length_set, List.length_append, List.length_cons, List.length_nil]); omega) hm ht.ok.frame, odd_done (by repeat (first | exact F1 | refine Fr.new ?_ _ | refine Fr.set ?_ (by omega) (by first | omega | (simp only [nxt_new, nxt_set]; omega)) _)) (by first | omega | (simp only [go_sem]; omega)) au (by omega) au ⟨.sl .clip [], .sl .nil [], rfl, .inl ⟨.clip, by simp [hwe]⟩, .inl ⟨.nil, rfl⟩⟩⟩
                            · have hc := hc18
                              refine rs (k := rg [3, 4, 8, 10, 11, 63] (k := rc (ht := fun hc19 => ?_) (hf := fun hc19 => ?_)))
                              · have hc := hc19
                                exfalso
                                have h := of_decide_eq_true hc
                                first | omega | (simp at h; omega)
                              · have hc := hc19
                                refine rk (k := rB (k := ?_))
                                have hxo := ht.ok.tens x hxm
                                have hbw := hxo.bw
                                have hbs := hxo.bs
                                refine rp [4, 8] (k := ?_)
                                exact hJb0 _ _ ⟨rfl, au, ⟨t.frame, t.tens.set k (⟨x.unit, x.fns, x.queue, x.wins, x.slts⟩ : Ten)⟩, few_set (k := k) (x' := (⟨x.unit, x.fns, x.queue, x.wins, x.slts⟩ : Ten)) ht ⟨hxo.unit, hxo.fns, hxo.queue, hxo.wins, hxo.slts, hxo.bw, hxo.bs⟩ (by (try simp only [List.length_set, List.length_append, List.length_cons, List.length_nil]); omega) (by (try simp only [List.length_set, List.length_append, List.length_cons, List.length_nil]); omega) hm ht.ok.frame, odd_done (by repeat (first | exact F1 | refine Fr.new ?_ _ | refine Fr.set ?_ (by omega) (by first | omega | (simp only [nxt_new, nxt_set]; omega)) _)) (by first | omega | (simp only [go_sem]; omega)) au (by omega) au ⟨.sl .clip [], .sl .clip [], rfl, .inl ⟨.clip, by simp [hwe]⟩, .inl ⟨.clip, by simp [hse]⟩⟩⟩
theorem law_odd {t : Tab} {m : Nat} (hm : m ≤ 1000) (ht : t.few m) {what at_ n : Int} (hwI : I64 what) (haI : I64 at_) (hnI : I64 n) {s : St} : ACalls Try.prog 11 [t.pv, .int .i64 what, .int .i64 at_, .int .i64 n] s (fun r s' => ∃ t' : Tab, r = t'.pv ∧ t'.few (m + 1) ∧ s' = s) := by
  by_cases h0 : t.tens = []
  · exact odd_nil hm ht hwI haI hnI h0
  · have hl : 0 < t.tens.length := List.length_pos_iff.2 h0
    have hb := withinI_bound (n := at_) (lo := 0) (hi := (t.tens.length : Int) - 1) (by omega)
    obtain ⟨k, hk⟩ : ∃ y : Nat, withinI at_ 0 ((t.tens.length : Int) - 1) = y := ⟨_, (Int.toNat_of_nonneg hb.1).symm⟩
    have hkl : k < t.tens.length := by omega
    by_cases hw : t.tens[k].wins = []
    · by_cases hs : t.tens[k].slts = []
      · exact odd_nn hm ht hwI haI hnI hk hkl rfl hw hs
      · exact odd_ns hm ht hwI haI hnI hk hkl rfl hw hs
    · by_cases hs : t.tens[k].slts = []
      · exact odd_wn hm ht hwI haI hnI hk hkl rfl hw hs
      · exact odd_ws hm ht hwI haI hnI hk hkl rfl hw hs
end Go.Proofs
namespace Go.Proofs
open Go.PM
set_option maxHeartbeats 2000000
theorem nums_get {j : Nat} (h : j < 20) : ∃ v : Int, ([.int .i64 (-1), .int .i64 0, .int .i64 1, .int .i64 2, .int .i64 5, .int .i64 6, .int .i64 7, .int .i64 71, .int .i64 72, .int .i64 73, .int .i64 130, .int .i64 247, .int .i64 248, .int .i64 510, .int .i64 511, .int .i64 512, .int .i64 2000, .int .i64 2001, .int .i64 65535, .int .i64 4611686018427387904] : List PV)[j]? = some (.int .i64 v) ∧ I64 v := by
  have : j = 0 ∨ j = 1 ∨ j = 2 ∨ j = 3 ∨ j = 4 ∨ j = 5 ∨ j = 6 ∨ j = 7 ∨ j = 8 ∨ j = 9 ∨ j = 10 ∨ j = 11 ∨ j = 12 ∨ j = 13 ∨ j = 14 ∨ j = 15 ∨ j = 16 ∨ j = 17 ∨ j = 18 ∨ j = 19 := by omega
  rcases this with rfl | rfl | rfl | rfl | rfl | rfl | rfl | rfl | rfl | rfl | rfl | rfl | rfl | rfl | rfl | rfl | rfl | rfl | rfl | rfl <;> exact ⟨_, rfl, by decide⟩
theorem zero_ok (f : Int) (hf : I64 f) (n : Nat) (hn : n ≤ 5) : Tab.ok ⟨f, List.replicate n ⟨0, 0, 0, [], []⟩⟩ :=
  ⟨hf, fun x hx => by rw [(List.mem_replicate.1 hx).2]; exact ⟨by decide, ⟨by decide, by decide⟩, by decide, fun w hw => (by cases hw), fun w hw => (by cases hw), by decide, by decide⟩, by simp; omega⟩
set_option maxRecDepth 100000 in
theorem law_Numbers {s : St} : ACalls Try.prog 3 [] s (fun r s' => r = .bool true ∧ s' = s) := by
  refine go Try.func3 (k := fun hwf H => ?_)
  refine rs (k := rg [] (k := rs (k := rs (k := rg [1] (k := rb (k := ?_))))))
  refine Run.loop (fun e s' => Fr s s' ∧ ∃ k : Nat, e = [(1, .int .i64 (k : Int))] ∧ k ≤ 40) (fun e s' => 40 - ivar e 1) ?_ ?_
  · exact ⟨Fr.refl hwf, 0, rfl, by omega⟩
  rintro e s1 ⟨F1, k, rfl, hk⟩
  refine rs (k := rs (k := rg [1, 7] (k := rc (ht := fun hc0 => ?_) (hf := fun hc0 => ?_))))
  · refine rk (k := rs (k := rb (k := rs (k := ?_))))
    have hkl : (k : Int) < 40 := of_decide_eq_true hc0
    have hwk : IntKind.i64.wrap ((k : Int) + 1) = ((k + 1 : Nat) : Int) := by rw [wrap_i64 (by omega)]; omega
    have H := aj hwk H
    refine rr (k := ro (pre := [_]) (k := ?_))
    refine RunO.callw au au au (by kernel_rfl) ((law_tape).mono ?_)
    rintro r s9 ⟨l, rfl, hl, hs⟩
    subst s9
    refine ro (pre := [_, _]) (k := ?_)
    refine RunO.callw au au au (by kernel_rfl) ((tape_Table (T := ⟨l, 0⟩) ⟨by simp only; omega, by simp only; omega⟩ (tp := s1.nxt) (by simp only [go_sem, ↓reduceIte] <;> rfl)).mono ?_)
    rintro r s9 ⟨t, T2, rfl, hs, hT2, hR, hfw⟩
    subst s9
    refine rh [1, 2] (k := rs (k := rs (k := ?_)))
    refine Run.abs (fun s2 => Fr s s2 ∧ s2.blk (s1.nxt + 1) = some (.row 24 [.agg [.int .i64 (t).frame, .sl .unk ((t).tens.map Ten.pv)]])) ⟨by repeat (first | exact F1 | refine Fr.new ?_ _ | refine Fr.set ?_ (by have := F1.nxt; omega) (by simp only [nxt_new, nxt_set]; omega) _), by simp only [go_sem, ↓reduceIte]⟩ ?_
    rintro s2 ⟨F2, hb2⟩
    have H := aj hb2 H
    refine rr (k := ro (pre := [_]) (k := ?_))
    refine RunO.callw au au au (by kernel_rfl) ((table_Right hfw.ok).mono ?_)
    rintro r s9 ⟨rfl, hs⟩
    subst s9
    rw [hR]
    refine rh [1, 2, 17] (k := rc (ht := fun hc1 => ?_) (hf := fun hc1 => ?_))
    · cases hc1
    · refine rk (k := rs (k := rg [1, 2, 3] (k := rb (k := ?_))))
      refine Run.loop (fun e s' => Fr s s' ∧ s'.blk (s1.nxt + 1) = some (.row 24 [.agg [.int .i64 (t).frame, .sl .unk ((t).tens.map Ten.pv)]]) ∧ ∃ w : Nat, e = [(1, .int .i64 (k : Int)), (2, .ptr (s1.nxt + 1) 0 0), (3, .int .i64 (w : Int))] ∧ w ≤ 14) (fun e s' => 14 - ivar e 3) ?_ ?_
      · exact ⟨F2, hb2, 0, rfl, by omega⟩
      rintro e s3 ⟨F3, hb3, w, rfl, hw⟩
      refine rs (k := rs (k := rg [1, 2, 3, 19] (k := rc (ht := fun hc2 => ?_) (hf := fun hc2 => ?_))))
      · refine rk (k := rs (k := rb (k := rs (k := ?_))))
        have hwl : (w : Int) < 14 := of_decide_eq_true hc2
        have hww : IntKind.i64.wrap ((w : Int) + 1) = ((w + 1 : Nat) : Int) := by rw [wrap_i64 (by omega)]; omega
        have hIw : I64 (w : Int) := ⟨by omega, by omega⟩
        have H := aj hww (aj hb3 H)
        refine rr (k := rO (k := rh [1, 2, 3, 22, 23, 24] (k := rb (k := ?_))))
        refine Run.loop (fun e s' => Fr s s' ∧ s'.blk (s1.nxt + 1) = some (.row 24 [.agg [.int .i64 (t).frame, .sl .unk ((t).tens.map Ten.pv)]]) ∧ ∃ j : Nat, e = [(1, .int .i64 (k : Int)), (2, .ptr (s1.nxt + 1) 0 0), (3, .int .i64 (w : Int)), (22, .sl .clip [.int .i64 (-1), .int .i64 0, .int .i64 1, .int .i64 2, .int .i64 5, .int .i64 6, .int .i64 7, .int .i64 71, .int .i64 72, .int .i64 73, .int .i64 130, .int .i64 247, .int .i64 248, .int .i64 510, .int .i64 511, .int .i64 512, .int .i64 2000, .int .i64 2001, .int .i64 65535, .int .i64 4611686018427387904]), (23, .int .i64 20), (24, .int .i64 (j : Int))] ∧ j ≤ 20) (fun e s' => 20 - ivar e 24) ?_ ?_
        · exact ⟨F3, hb3, 0, rfl, by omega⟩
        rintro e s4 ⟨F4, hb4, j, rfl, hj⟩
        refine rs (k := rg [1, 2, 3, 22, 23, 24, 25] (k := rs (k := rc (ht := fun hc3 => ?_) (hf := fun hc3 => ?_))))
        · refine rk (k := rs (k := rb (k := rs (k := ?_))))
          have hjl : (j : Int) < 20 := of_decide_eq_true hc3
          obtain ⟨v, hv, hIv⟩ := nums_get (j := j) (by omega)
          have hwj : IntKind.i64.wrap ((j : Int) + 1) = ((j + 1 : Nat) : Int) := by rw [wrap_i64 (by omega)]; omega
          have hwa : IntKind.i64.wrap ((k : Int) + (w : Int)) = (k : Int) + w := wrap_i64 (by omega)
          have hj20 : ((j : Int) < 20) = True := eq_true hjl
          have H := aj hv (aj hwj (aj hwa (aj hj20 (aj hb4 H))))
          refine rg [1, 2, 3, 5, 22, 23, 24] (k := rs (k := rr (k := ro (pre := [_, _, _, _, _, _]) (k := ?_))))
          refine RunO.callw au au au (by kernel_rfl) ((law_odd (m := 6) (by decide) hfw hIw (by unfold I64; omega) hIv).mono ?_)
          rintro r s9 ⟨t2, rfl, hf2, hs⟩
          subst s9
          refine rC (h := law_same hf2.ok) (k := rh [1, 2, 3, 22, 23, 24, 36] (k := rc (ht := fun hc4 => ?_) (hf := fun hc4 => ?_)))
          · cases hc4
          · refine rk (k := rB (k := rg [1, 2, 3, 22, 23, 24] (k := ?_)))
            refine Run.lp ⟨⟨F4, hb4, j + 1, rfl, by omega⟩, ?_⟩
            simp only [ivar, go_sem, ↓reduceIte, Nat.reduceEqDiff]
            omega
        · refine rX (k := rB (k := rg [1, 2, 3] (k := ?_)))
          refine Run.lp ⟨⟨F4, hb4, w + 1, rfl, by omega⟩, ?_⟩
          simp only [ivar, go_sem, ↓reduceIte, Nat.reduceEqDiff]
          omega
      · refine rX (k := rB (k := rg [1] (k := ?_)))
        refine Run.lp ⟨⟨F3, k + 1, rfl, by omega⟩, ?_⟩
        simp only [ivar, go_sem, ↓reduceIte, Nat.reduceEqDiff]
        omega
  · refine rX (k := rs (k := rr (k := ro (pre := [_]) (k := rC (h := law_same (t := ⟨0, []⟩) (zero_ok 0 (by decide) 0 (by decide))) (k := ro (pre := [_]) (k := rQ 40 (ht := fun hg2 => ?_) (hf := fun hg2 => ?_)))))))
    · refine rg1 (k := rC (h := law_same (t := ⟨1, []⟩) (zero_ok 1 (by decide) 0 (by decide))) (k := ro (pre := [_, _]) (k := rQ 44 (ht := fun hg6 => ?_) (hf := fun hg6 => ?_))))
      · refine RunO.makeSlice (n := 5) au au au Try.td22 Try.zp43 (by decide) (by decide) (by rw [Try.by43]; decide) ?_
        refine rg1 (k := rC (h := law_same (t := ⟨1, List.replicate 5 ⟨0, 0, 0, [], []⟩⟩) (zero_ok 1 (by decide) 5 (by decide))) (k := ro (pre := [_, _]) (k := rQ 49 (ht := fun hg11 => ?_) (hf := fun hg11 => ?_))))
        · refine rC (h := law_known) (k := rh [0] (k := rR (k := ?_)))
          refine Ret.pure (by simp only [Try.f3, go_sem] <;> rfl) rfl (by simp only [go_sem, reduceCtorEq, false_implies, implies_true]) hwf (by first | exact (F1).blk) ⟨?_, rfl⟩
          · rfl
        · cases hg11
      · cases hg6
    · cases hg2
end Go.Proofs
